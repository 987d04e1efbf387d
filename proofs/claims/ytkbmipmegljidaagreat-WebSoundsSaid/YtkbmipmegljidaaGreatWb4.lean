/- Comparing texts rune by rune: cmp.Compare, slices.Compare at runes, letter.Compare, props.by. Conditions: each contract's own premises. -/
import Derived.Test.YtkbmipmegljidaaGreatWsB
import Derived.Laws.IdiomStrings
namespace Go.Proofs.YtkbmipmegljidaaGreat
open Go.RowKit Go.Maps

/-- two numbers -/
def cmpI (x y : Int) : Int := if x < y then -1 else if y < x then 1 else 0
theorem isNaNR_any (x : Int) (w : World) : Calls Tryz.prog 178 #[.int .i32 x] w fun e w' => e = .returned (.bool false) ∧ w = w' := by
  go_enter Tryz.func178, Tryz.ntmps178
  go_wp2
  go_ret
  exact ⟨by simp, rfl⟩
theorem cmpR_any (x y : Int) (w : World) : Calls Tryz.prog 172 #[.int .i32 x, .int .i32 y] w fun e w' => e = .returned (.int .i64 (cmpI x y)) ∧ w = w' := by
  unfold cmpI
  rcases Int.lt_trichotomy x y with h | h | h
  · rw [if_pos h]
    go_enter Tryz.func172, Tryz.ntmps172
    go_wp2_with (go_at_call 178; refine (isNaNR_any _ _).mono ?_; rintro e w' ⟨rfl, rfl⟩)
    go_ret
    exact ⟨rfl, rfl⟩
  · subst h
    rw [if_neg (by omega), if_neg (by omega)]
    have h1 : decide (x < x) = false := by simp
    go_enter Tryz.func172, Tryz.ntmps172
    go_wp2_with (go_at_call 178; refine (isNaNR_any _ _).mono ?_; rintro e w' ⟨rfl, rfl⟩)
    go_ret
    exact ⟨rfl, rfl⟩
  · have h' : ¬ x < y := by omega
    rw [if_neg h', if_pos h]
    go_enter Tryz.func172, Tryz.ntmps172
    go_wp2_with (go_at_call 178; refine (isNaNR_any _ _).mono ?_; rintro e w' ⟨rfl, rfl⟩)
    go_ret
    exact ⟨rfl, rfl⟩

/-- lists of numbers, one against the other -/
def cmpL : List Int → List Int → Int
  | [], [] => 0
  | [], _ :: _ => -1
  | _ :: _, [] => 1
  | x :: a, y :: b => if cmpI x y = 0 then cmpL a b else cmpI x y
theorem cmpL_drop {a b : List Int} {k : Nat} (ha : k < a.length) (hb : k < b.length) : cmpL (a.drop k) (b.drop k) = if cmpI a[k] b[k] = 0 then cmpL (a.drop (k + 1)) (b.drop (k + 1)) else cmpI a[k] b[k] := by
  rw [List.drop_eq_getElem_cons ha, List.drop_eq_getElem_cons hb]
  rfl
theorem cmpL_long {a b : List Int} {k : Nat} (ha : k < a.length) (hb : ¬ k < b.length) : cmpL (a.drop k) (b.drop k) = 1 := by
  rw [List.drop_eq_getElem_cons ha, List.drop_of_length_le (show b.length ≤ k by omega)]
  rfl
theorem cmpL_end {a b : List Int} {k : Nat} (hk : k ≤ b.length) (hka : k = a.length) : cmpL (a.drop k) (b.drop k) = if a.length < b.length then -1 else 0 := by
  rw [List.drop_of_length_le (show a.length ≤ k by omega)]
  by_cases h : a.length < b.length
  · rw [if_pos h, List.drop_eq_getElem_cons (show k < b.length by omega)]; rfl
  · rw [if_neg h, List.drop_of_length_le (show b.length ≤ k by omega)]; rfl

/-- runes in memory -/
structure RsAt (w : World) (b : Nat) (l : List Int) : Prop where
  cells : ∀ (i : Nat) (x : Int), l[i]? = some x → w.cell? ⟨b, i, none⟩ = some (.int .i32 x)
  lt : b < w.heap.size
theorem RsAt.of_block {w w' : World} {b : Nat} {l : List Int} (h : RsAt w b l) (hb : w'.heap[b]? = w.heap[b]?) : RsAt w' b l :=
  ⟨fun i x hx => (World.cell?_of_block (a := ⟨b, i, none⟩) hb).trans (h.cells i x hx), (Array.getElem?_eq_some_iff.1 (hb.trans (Array.getElem?_eq_getElem h.lt))).1⟩

set_option maxHeartbeats 400000 in
theorem sCmpR_any (p q cp cq : Nat) (a b : List Int) (w : World) (ha : RsAt w p a) (hb : RsAt w q b) (la : a.length ≤ 2000000) :
    Calls Tryz.prog 155 #[.slice (some ⟨p, 0, none⟩) a.length cp, .slice (some ⟨q, 0, none⟩) b.length cq] w fun e w' => e = .returned (.int .i64 (cmpL a b)) ∧ w = w' := by
  go_enter Tryz.func155, Tryz.ntmps155
  go_wp2_with fail
  go_loop [11] (fun i => ∃ k : Nat, k ≤ a.length ∧ k ≤ b.length ∧ i = .int .i64 k ∧ Hid (cmpL a b = cmpL (a.drop k) (b.drop k))) (fun i => a.length - (intOf i).toNat)
  case atStart => exact ⟨0, Nat.zero_le _, Nat.zero_le _, rfl, Lib.hid (by simp)⟩
  case round =>
    obtain ⟨k, hk, hk2, rfl, HO⟩ := hrel
    by_cases h1 : k < a.length
    · have c1 := ha.cells k a[k] (List.getElem?_eq_getElem h1)
      by_cases h2 : k < b.length
      · have c2 := hb.cells k b[k] (List.getElem?_eq_getElem h2)
        have hd := cmpL_drop h1 h2
        have l1 := ha.lt
        have l2 := hb.lt
        clear ha hb
        obtain ⟨x, hx⟩ : ∃ x, a[k] = x := ⟨_, rfl⟩
        obtain ⟨y, hy⟩ : ∃ y, b[k] = y := ⟨_, rfl⟩
        rw [hx, hy] at hd
        rw [hx] at c1
        rw [hy] at c2
        clear hx hy
        have HD := Lib.hid hd
        clear hd
        by_cases h0 : cmpI x y = 0
        · have n0 : (cmpI x y != 0) = false := by simpa using h0
          have H0 := Lib.hid h0
          clear h0
          go_wp2_with (go_at_call 172; refine (cmpR_any _ _ _).mono ?_; rintro e w' ⟨rfl, rfl⟩)
          go_round
          case rel => exact ⟨k + 1, by omega, by omega, by go_num, Lib.hid (by rw [HO.out, HD.out, if_pos H0.out])⟩
          case measure => simp [intOf]; omega
        · have n0 : (cmpI x y != 0) = true := by simpa using h0
          have H0 := Lib.hid h0
          clear h0
          go_wp2_with (go_at_call 172; refine (cmpR_any _ _ _).mono ?_; rintro e w' ⟨rfl, rfl⟩)
          go_ret
          exact ⟨ret_int (by rw [HO.out, HD.out, if_neg H0.out]), rfl⟩
      · have l1 := ha.lt
        clear ha hb
        have HD := Lib.hid (cmpL_long h1 h2)
        go_wp2_with fail
        go_ret
        exact ⟨ret_int (by rw [HO.out, HD.out]), rfl⟩
    · clear ha hb
      have HD := Lib.hid (cmpL_end (a := a) hk2 (by omega))
      by_cases h3 : a.length < b.length
      · rw [if_pos h3] at HD
        go_wp2_with fail
        go_ret
        exact ⟨ret_int (by rw [HO.out, HD.out]), rfl⟩
      · rw [if_neg h3] at HD
        go_wp2_with fail
        go_ret
        exact ⟨ret_int (by rw [HO.out, HD.out]), rfl⟩

theorem conv_runes (s : ByteArray) : ∀ (f p : Nat) (acc : Array Value), Conv.runesFrom s f p acc = acc ++ ((runesAt s f p).map (Value.int .i32)).toArray
  | 0, p, acc => by simp [Conv.runesFrom, runesAt]
  | f + 1, p, acc => by
    unfold Conv.runesFrom runesAt
    by_cases h : p < s.size
    · rw [if_pos h, if_pos h]
      simp only []
      rw [conv_runes s f]
      simp
    · rw [if_neg h, if_neg h]; simp
theorem runes_len (s : ByteArray) : (runes s).length ≤ s.size := by
  rw [runes_from]
  have := runesFrom_len s s.size 0 (by omega)
  omega
/-- '[]rune(s)' at the operation -/
theorem wpList_runes (w : World) {ops : Array Oper} {rest : List Oper} {o : Oper} {a : Act} {Q : Exit → Act → World → Prop} (hg : o.guard = none) (x : Operand) (hop : o.op = Op.convert 9 188 x) (s : ByteArray) (hx : a.eval x = .string s) (hs : s.size ≤ 2000000)
    (hK : ∀ w1 cap, RsAt w1 w.heap.size (runes s) → Below w.heap.size w w1 → w1.heap.size = w.heap.size + 1 → wpList Tryz.prog ops Q rest (a.put o.dst (.slice (some ⟨w.heap.size, 0, none⟩) (runes s).length cap)) w1) :
    wpList Tryz.prog ops Q (o :: rest) a w := by
  refine wpList_plain hg fun K' hK' => ?_
  have e := conv_runes s s.size 0 #[]
  have hsz : (Conv.runesFrom s s.size 0 #[]).size = (runes s).length := by rw [e]; simp [runes]
  have hrun := run_runes_of_string (P := Tryz.prog) w 9 188 21 s Tryz.underlying9 Tryz.underlying188 Tryz.underlying21 (by have := runes_len s; rw [hsz]; omega)
  rw [hsz] at hrun
  unfold Oper.wp
  simp [execOp, hop, hx, hrun, Result.andThen]
  refine hK' _ _ (hK _ _ ⟨fun i y hy => ?_, by simp⟩ ?_ (by simp))
  · have hb := heap_new w.drew (.cells (Conv.runesFrom s s.size 0 #[] ++ Array.replicate (grownCap w (runes s).length 0 21 - (runes s).length) (.int .i32 0)) 21)
    have hi := (List.getElem?_eq_some_iff.1 hy).1
    refine (cell_of_blk hb i).trans ?_
    rw [Array.getElem?_append_left (by rw [hsz]; exact hi), e]
    have : (runesAt s s.size 0)[i]? = some y := hy
    simp [this]
  · exact ((Below.refl _ _).drew).alloc (Nat.le_refl _) _

set_option maxHeartbeats 400000 in
theorem lcompare_any (s t : ByteArray) (w : World) (hs : s.size ≤ 2000000) (ht : t.size ≤ 2000000) :
    Calls Tryz.prog 119 #[.string s, .string t] w fun e w' => e = .returned (.int .i64 (cmpL (runes s) (runes t))) ∧ Below w.heap.size w w' := by
  have ls := runes_len s
  have lt := runes_len t
  go_enter Tryz.func119, Tryz.ntmps119
  go_wp2_with (first | (refine wpList_runes _ rfl (.tmp 5) rfl s rfl hs ?_; intro w1 c1 r1 b1 z1) | (refine wpList_runes _ rfl (.tmp 7) rfl t rfl ht ?_; intro w2 c2 r2 b2 z2))
  refine (sCmpR_any w.heap.size (w.heap.size + 1) c1 c2 (runes s) (runes t) w2 (r1.of_block (b2.block _ (by omega))) (z1 ▸ r2) (by omega)).mono ?_
  rintro e w3 ⟨rfl, rfl⟩
  go_wp2_with fail
  go_ret
  exact ⟨rfl, below_then b1 b2⟩

/-- a property -/
structure Pr where
  key : ByteArray
  v : Vl
structure Pr.Ok (p : Pr) : Prop where
  key : p.key.size ≤ 2000000
  v : p.v.Ok
theorem by_any (p : Pr) (k : ByteArray) (w : World) (hp : p.key.size ≤ 2000000) (hk : k.size ≤ 2000000) :
    Calls Tryz.prog 89 #[.agg #[.string p.key, .int .i64 p.v.kind, .int .i64 p.v.n, .string p.v.s], .string k] w fun e w' => e = .returned (.int .i64 (cmpL (runes p.key) (runes k))) ∧ Below w.heap.size w w' := by
  go_enter Tryz.func89, Tryz.ntmps89
  go_wp2_with fail
  refine (lcompare_any p.key k _ hp hk).mono ?_
  rintro e w1 ⟨rfl, hb⟩
  go_wp2_with fail
  go_ret
  exact ⟨rfl, below_then (below_box w _) hb⟩

/-- properties in memory, one behind the other -/
structure PsAt (w : World) (b off : Nat) (l : List Pr) : Prop where
  ok : ∀ p ∈ l, p.Ok
  cells : ∀ (i : Nat) (p : Pr), l[i]? = some p → w.cell? ⟨b, off + i * 4, none⟩ = some (.string p.key) ∧ w.cell? ⟨b, off + i * 4 + 1, none⟩ = some (.int .i64 p.v.kind) ∧ w.cell? ⟨b, off + i * 4 + 2, none⟩ = some (.int .i64 p.v.n) ∧ w.cell? ⟨b, off + i * 4 + 3, none⟩ = some (.string p.v.s)
  lt : b < w.heap.size
def PsV (w : World) (a : Option Addr) (l : List Pr) : Prop := l ≠ [] → ∃ b off, a = some ⟨b, off, none⟩ ∧ PsAt w b off l
theorem PsAt.of_block {w w' : World} {b off : Nat} {l : List Pr} (h : PsAt w b off l) (hb : w'.heap[b]? = w.heap[b]?) : PsAt w' b off l :=
  ⟨h.ok, fun i x hx => by
    have e : ∀ j, w'.cell? ⟨b, j, none⟩ = w.cell? ⟨b, j, none⟩ := fun j => World.cell?_of_block (a := ⟨b, j, none⟩) hb
    simp only [e]; exact h.cells i x hx, (Array.getElem?_eq_some_iff.1 (hb.trans (Array.getElem?_eq_getElem h.lt))).1⟩
theorem PsV.below {w w' : World} {a : Option Addr} {l : List Pr} (h : PsV w a l) (hb : Below w.heap.size w w') : PsV w' a l := fun e => by
  obtain ⟨b, off, h1, h2⟩ := h e
  exact ⟨b, off, h1, h2.of_block (hb.block _ h2.lt)⟩
theorem below_al {a b : World} (h : Below a.heap.size a b) (X : Obj) : Below a.heap.size a (b.alloc X) := h.alloc h.size X

/-- the property at a place is right, beside the one ahead of it -/
def okAt (ps : List Pr) (i : Nat) : Prop := ∀ p : Pr, ps[i]? = some p → badS p.key = false ∧ p.v.right = true ∧ ∀ q : Pr, 0 < i → ps[i - 1]? = some q → cmpL (runes q.key) (runes p.key) < 0
open Classical in
/-- are properties right? -/
noncomputable def rightPs (ps : List Pr) : Bool := decide ((∀ i, i < ps.length → okAt ps i) ∧ ps.length ≤ 16)
open Classical in
theorem rightPs_no {ps : List Pr} {i : Nat} (hi : i < ps.length) (h : ¬ okAt ps i) : rightPs ps = false := decide_eq_false fun e => h (e.1 i hi)
open Classical in
theorem rightPs_end {ps : List Pr} (h : ∀ i, i < ps.length → okAt ps i) : rightPs ps = decide (ps.length ≤ 16) := by
  unfold rightPs
  by_cases hl : ps.length ≤ 16
  · rw [decide_eq_true hl, decide_eq_true ⟨h, hl⟩]
  · rw [decide_eq_false hl, decide_eq_false fun e => hl e.2]

set_option maxRecDepth 100000 in
set_option maxHeartbeats 2000000 in
theorem pright_any (a : Option Addr) (cap : Nat) (ps : List Pr) (w : World) (h : PsV w a ps) (hl : ps.length ≤ 100000) :
    Calls Tryz.prog 49 #[.slice a ps.length cap] w fun e w' => e = .returned (.bool (rightPs ps)) ∧ Below w.heap.size w w' := by
  go_enter Tryz.func49, Tryz.ntmps49
  go_wp2_with fail
  go_loopw [7] (fun i wr => ∃ j : Nat, j ≤ ps.length ∧ i = .int .i64 j ∧ Hid (∀ i', i' < j → okAt ps i') ∧ Below w.heap.size w wr) (fun i _ => ps.length - (intOf i).toNat)
  case atStart => exact ⟨0, Nat.zero_le _, rfl, Lib.hid (fun _ h => absurd h (Nat.not_lt_zero _)), Below.refl _ _⟩
  case round =>
    obtain ⟨j, hj, rfl, HN, hbel⟩ := hrel
    by_cases hlt : j < ps.length
    · obtain ⟨p, hp⟩ : ∃ p, ps[j]? = some p := ⟨_, List.getElem?_eq_getElem hlt⟩
      obtain ⟨b, off, rfl, hat⟩ := (h.below hbel) (fun e => by rw [e] at hlt; simp at hlt)
      obtain ⟨q0, q1, q2, q3⟩ := hat.cells j p hp
      have hok := hat.ok p (List.mem_of_getElem? hp)
      have hlb := hat.lt
      have HP := Lib.hid hp
      have HS := Lib.hid (show p.key.size ≤ maxLen by have := hok.key; unfold maxLen; omega)
      have HS2 := Lib.hid hok.key
      have HV := Lib.hid hok.v
      go_wp2_with fail
      obtain ⟨W, hW⟩ : ∃ W, W = wr.alloc (.cells #[.string p.key, .int .i64 p.v.kind, .int .i64 p.v.n, .string p.v.s] 62) := ⟨_, rfl⟩
      rw [← hW]
      have hBW : Below w.heap.size w W := by rw [hW]; exact hbel.alloc hbel.size _
      have eW : W.heap[wr.heap.size]? = some (.cells #[.string p.key, .int .i64 p.v.kind, .int .i64 p.v.n, .string p.v.s] 62) := by rw [hW]; exact heap_new wr _
      have hWr : Below wr.heap.size wr W := by rw [hW]; exact below_box wr _
      have ks : ∀ w', Below W.heap.size W w' → Below W.heap.size W w' ∧ w'.cell? ⟨wr.heap.size, 0, none⟩ = some (.string p.key) ∧ w'.cell? ⟨wr.heap.size, 1, none⟩ = some (.int .i64 p.v.kind) ∧ w'.cell? ⟨wr.heap.size, 2, none⟩ = some (.int .i64 p.v.n) ∧ w'.cell? ⟨wr.heap.size, 3, none⟩ = some (.string p.v.s) := fun w' hb => by
        have e := (hb.block _ (Array.getElem?_eq_some_iff.1 eW).1).trans eW
        exact ⟨hb, by rw [cell_of_blk e]; rfl, by rw [cell_of_blk e]; rfl, by rw [cell_of_blk e]; rfl, by rw [cell_of_blk e]; rfl⟩
      have KS := Lib.hid ks
      have HAT := Lib.hid (hat.of_block (hWr.block b hlb))
      clear hW ks q0 q1 q2 q3 hat hok hp eW hWr h
      obtain ⟨bk, hbk⟩ : ∃ bk, badS p.key = bk := ⟨_, rfl⟩
      have HB : Hid (badS p.key = bk) := Lib.hid hbk
      cases bk
      · obtain ⟨vr, hvr⟩ : ∃ vr, p.v.right = vr := ⟨_, rfl⟩
        have HR := Lib.hid hvr
        cases vr
        · have HF := Lib.hid (rightPs_no hlt (fun ho => by have := (ho p HP.out).2.1; rw [hvr] at this; cases this))
          clear hvr hbk
          refine wp_region_held_drew (S := (fun w' => Below W.heap.size W w' ∧ w'.cell? ⟨wr.heap.size, 0, none⟩ = some (.string p.key) ∧ w'.cell? ⟨wr.heap.size, 1, none⟩ = some (.int .i64 p.v.kind) ∧ w'.cell? ⟨wr.heap.size, 2, none⟩ = some (.int .i64 p.v.n) ∧ w'.cell? ⟨wr.heap.size, 3, none⟩ = some (.string p.v.s))) (by kernel_rfl) (KS.out _ (Below.refl _ _).drew) (fun hHeld => ?_)
          refine wpAnyH_take (i := 0) (oi := ⟨some 12, _, _, _, _, _⟩) (v := ?va0) rfl (by kernel_rfl) (by kernel_rfl) (by kernel_rfl) (fun _ _ _ h => h) (Or.inl ⟨by rfl, ?ya0⟩) hHeld ?ra0
          case ya0 => (intro wq hSw; (try dsimp only at hSw); go_simp; first | done | with_reducible rfl)
          simp only [Act.put, List.setIfInBounds_toArray, List.set_cons_zero, List.set_cons_succ]
          refine wpAnyH_take (i := 1) (oi := ⟨some 13, _, _, _, _, _⟩) (v := ?va1) rfl (by kernel_rfl) (by kernel_rfl) (by kernel_rfl) (fun _ _ _ h => h) (Or.inl ⟨by rfl, ?ya1⟩) hHeld ?ra1
          case ya1 => (intro wq hSw; (try dsimp only at hSw); go_simp; first | done | with_reducible rfl)
          simp only [Act.put, List.setIfInBounds_toArray, List.set_cons_zero, List.set_cons_succ]
          refine wpAnyH_ready (rs := [2]) (by kernel_rfl) (by simp) ?_
          refine AllReadyH.cons (o := ⟨some 14, _, _, _, _, _⟩) rfl (fun K hK => ?_) AllReadyH.nil
          go_simp
          refine hK.out _ _ ?sa2 (fun hHeld => ?_)
          case sa2 => (first | exact KS.out _ (below_al (Below.refl _ _) _).drew | exact KS.out _ (below_then (below_al (Below.refl _ _) _).drew hbc) | exact KS.out _ (below_al hHeld.1 _) | exact KS.out _ (below_then hHeld.1 hbd) | exact KS.out _ (below_then hHeld.1 hbe))
          clear hK K
          try simp only [Act.put, List.setIfInBounds_toArray, List.set_cons_zero, List.set_cons_succ]
          refine wpAnyH_ready (rs := [3]) (by kernel_rfl) (by simp) ?_
          refine AllReadyH.cons (o := ⟨some 15, _, _, _, _, _⟩) rfl (fun K hK => ?_) AllReadyH.nil
          go_simp
          refine (lright_one W.heap.size 1 p.key 9 (0, 0) _ ?n1a HS.out).mono ?_
          case n1a => exact heap_new W _
          rintro e wc ⟨rfl, hbc⟩
          rw [HB.out]
          go_wp2_with fail
          refine hK.out _ _ ?sa3 (fun hHeld => ?_)
          case sa3 => (first | exact KS.out _ (below_al (Below.refl _ _) _).drew | exact KS.out _ (below_then (below_al (Below.refl _ _) _).drew hbc) | exact KS.out _ (below_al hHeld.1 _) | exact KS.out _ (below_then hHeld.1 hbd) | exact KS.out _ (below_then hHeld.1 hbe))
          clear hK K
          try simp only [Act.put, List.setIfInBounds_toArray, List.set_cons_zero, List.set_cons_succ]
          refine wpAnyH_take (i := 4) (oi := ⟨some 16, _, _, _, _, _⟩) (v := ?va4) rfl (by kernel_rfl) (by kernel_rfl) (by kernel_rfl) (fun _ _ _ h => h) (Or.inl ⟨by rfl, ?ya4⟩) hHeld ?ra4
          case ya4 => (intro wq hSw; (try dsimp only at hSw); go_simp; first | done | with_reducible rfl)
          simp only [Act.put, List.setIfInBounds_toArray, List.set_cons_zero, List.set_cons_succ]
          refine wpAnyH_take (i := 5) (oi := ⟨some 17, _, _, _, _, _⟩) (v := ?va5) rfl (by kernel_rfl) (by kernel_rfl) (by kernel_rfl) (fun _ _ _ h => h) (Or.inl ⟨by rfl, ?ya5⟩) hHeld ?ra5
          case ya5 => (intro wq hSw; (try dsimp only at hSw); go_simp; first | done | with_reducible rfl)
          simp only [Act.put, List.setIfInBounds_toArray, List.set_cons_zero, List.set_cons_succ]
          refine wpAnyH_take (i := 6) (oi := ⟨some 18, _, _, _, _, _⟩) (v := ?va6) rfl (by kernel_rfl) (by kernel_rfl) (by kernel_rfl) (fun _ _ _ h => h) (Or.inl ⟨by rfl, ?ya6⟩) hHeld ?ra6
          case ya6 => (intro wq hSw; (try dsimp only at hSw); go_simp; first | done | with_reducible rfl)
          simp only [Act.put, List.setIfInBounds_toArray, List.set_cons_zero, List.set_cons_succ]
          refine wpAnyH_take (i := 7) (oi := ⟨some 19, _, _, _, _, _⟩) (v := ?va7) rfl (by kernel_rfl) (by kernel_rfl) (by kernel_rfl) (fun _ _ _ h => h) (Or.inl ⟨by rfl, ?ya7⟩) hHeld ?ra7
          case ya7 => (intro wq hSw; (try dsimp only at hSw); go_simp; first | done | with_reducible rfl)
          simp only [Act.put, List.setIfInBounds_toArray, List.set_cons_zero, List.set_cons_succ]
          refine wpAnyH_ready (rs := [8]) (by kernel_rfl) (by simp) ?_
          refine AllReadyH.cons (o := ⟨some 20, _, _, _, _, _⟩) rfl (fun K hK => ?_) AllReadyH.nil
          go_simp
          refine hK.out _ _ ?sa8 (fun hHeld => ?_)
          case sa8 => (first | exact KS.out _ (below_al (Below.refl _ _) _).drew | exact KS.out _ (below_then (below_al (Below.refl _ _) _).drew hbc) | exact KS.out _ (below_al hHeld.1 _) | exact KS.out _ (below_then hHeld.1 hbd) | exact KS.out _ (below_then hHeld.1 hbe))
          clear hK K
          try simp only [Act.put, List.setIfInBounds_toArray, List.set_cons_zero, List.set_cons_succ]
          refine wpAnyH_ready (rs := [9]) (by kernel_rfl) (by simp) ?_
          refine AllReadyH.cons (o := ⟨some 21, _, _, _, _, _⟩) rfl (fun K hK => ?_) AllReadyH.nil
          go_simp
          refine (vright_one _ 1 p.v 60 (0, 0) _ ?n2a HV.out).mono ?_
          case n2a => exact heap_new _ _
          rintro e wd ⟨rfl, hbd⟩
          rw [HR.out]
          go_wp2_with fail
          refine hK.out _ _ ?sa9 (fun hHeld => ?_)
          case sa9 => (first | exact KS.out _ (below_al (Below.refl _ _) _).drew | exact KS.out _ (below_then (below_al (Below.refl _ _) _).drew hbc) | exact KS.out _ (below_al hHeld.1 _) | exact KS.out _ (below_then hHeld.1 hbd) | exact KS.out _ (below_then hHeld.1 hbe))
          clear hK K
          try simp only [Act.put, List.setIfInBounds_toArray, List.set_cons_zero, List.set_cons_succ]
          refine wpAnyH_take (i := 10) (oi := ⟨some 22, _, _, _, _, _⟩) (v := ?va10) rfl (by kernel_rfl) (by kernel_rfl) (by kernel_rfl) (fun _ _ _ h => h) (Or.inl ⟨by rfl, ?ya10⟩) hHeld ?ra10
          case ya10 => (intro wq hSw; (try dsimp only at hSw); go_simp; first | done | with_reducible rfl)
          simp only [Act.put, List.setIfInBounds_toArray, List.set_cons_zero, List.set_cons_succ]
          refine wpAnyH_take (i := 11) (oi := ⟨some 23, _, _, _, _, _⟩) (v := ?va11) rfl (by kernel_rfl) (by kernel_rfl) (by kernel_rfl) (fun _ _ _ h => h) (Or.inl ⟨by rfl, ?ya11⟩) hHeld ?ra11
          case ya11 => (intro wq hSw; (try dsimp only at hSw); go_simp; first | done | with_reducible rfl)
          simp only [Act.put, List.setIfInBounds_toArray, List.set_cons_zero, List.set_cons_succ]
          refine wpAnyH_take (i := 12) (oi := ⟨some 24, _, _, _, _, _⟩) (v := ?va12) rfl (by kernel_rfl) (by kernel_rfl) (by kernel_rfl) (fun _ _ _ h => h) (Or.inl ⟨by rfl, ?ya12⟩) hHeld ?ra12
          case ya12 => (intro wq hSw; (try dsimp only at hSw); go_simp; first | done | with_reducible rfl)
          simp only [Act.put, List.setIfInBounds_toArray, List.set_cons_zero, List.set_cons_succ]
          refine wpAnyH_take (i := 13) (oi := ⟨some 25, _, _, _, _, _⟩) (v := undef) rfl (by kernel_rfl) (by kernel_rfl) (by kernel_rfl) (fun _ _ _ h => h) (Or.inr ⟨by rfl, rfl⟩) hHeld ?_
          simp only [Act.put, List.setIfInBounds_toArray, List.set_cons_zero, List.set_cons_succ]
          refine wpAnyH_take (i := 14) (oi := ⟨some 26, _, _, _, _, _⟩) (v := undef) rfl (by kernel_rfl) (by kernel_rfl) (by kernel_rfl) (fun _ _ _ h => h) (Or.inr ⟨by rfl, rfl⟩) hHeld ?_
          simp only [Act.put, List.setIfInBounds_toArray, List.set_cons_zero, List.set_cons_succ]
          refine wpAnyH_take (i := 15) (oi := ⟨some 27, _, _, _, _, _⟩) (v := undef) rfl (by kernel_rfl) (by kernel_rfl) (by kernel_rfl) (fun _ _ _ h => h) (Or.inr ⟨by rfl, rfl⟩) hHeld ?_
          simp only [Act.put, List.setIfInBounds_toArray, List.set_cons_zero, List.set_cons_succ]
          refine wpAnyH_take (i := 16) (oi := ⟨some 28, _, _, _, _, _⟩) (v := undef) rfl (by kernel_rfl) (by kernel_rfl) (by kernel_rfl) (fun _ _ _ h => h) (Or.inr ⟨by rfl, rfl⟩) hHeld ?_
          simp only [Act.put, List.setIfInBounds_toArray, List.set_cons_zero, List.set_cons_succ]
          refine wpAnyH_take (i := 17) (oi := ⟨some 29, _, _, _, _, _⟩) (v := undef) rfl (by kernel_rfl) (by kernel_rfl) (by kernel_rfl) (fun _ _ _ h => h) (Or.inr ⟨by rfl, rfl⟩) hHeld ?_
          simp only [Act.put, List.setIfInBounds_toArray, List.set_cons_zero, List.set_cons_succ]
          refine wpAnyH_take (i := 18) (oi := ⟨some 30, _, _, _, _, _⟩) (v := undef) rfl (by kernel_rfl) (by kernel_rfl) (by kernel_rfl) (fun _ _ _ h => h) (Or.inr ⟨by rfl, rfl⟩) hHeld ?_
          simp only [Act.put, List.setIfInBounds_toArray, List.set_cons_zero, List.set_cons_succ]
          refine wpAnyH_take (i := 19) (oi := ⟨some 31, _, _, _, _, _⟩) (v := undef) rfl (by kernel_rfl) (by kernel_rfl) (by kernel_rfl) (fun _ _ _ h => h) (Or.inr ⟨by rfl, rfl⟩) hHeld ?_
          simp only [Act.put, List.setIfInBounds_toArray, List.set_cons_zero, List.set_cons_succ]
          refine wpAnyH_take (i := 20) (oi := ⟨some 32, _, _, _, _, _⟩) (v := undef) rfl (by kernel_rfl) (by kernel_rfl) (by kernel_rfl) (fun _ _ _ h => h) (Or.inr ⟨by rfl, rfl⟩) hHeld ?_
          simp only [Act.put, List.setIfInBounds_toArray, List.set_cons_zero, List.set_cons_succ]
          refine wpAnyH_take (i := 21) (oi := ⟨some 33, _, _, _, _, _⟩) (v := undef) rfl (by kernel_rfl) (by kernel_rfl) (by kernel_rfl) (fun _ _ _ h => h) (Or.inr ⟨by rfl, rfl⟩) hHeld ?_
          simp only [Act.put, List.setIfInBounds_toArray, List.set_cons_zero, List.set_cons_succ]
          refine wpAnyH_take (i := 22) (oi := ⟨some 34, _, _, _, _, _⟩) (v := undef) rfl (by kernel_rfl) (by kernel_rfl) (by kernel_rfl) (fun _ _ _ h => h) (Or.inr ⟨by rfl, rfl⟩) hHeld ?_
          simp only [Act.put, List.setIfInBounds_toArray, List.set_cons_zero, List.set_cons_succ]
          refine wpAnyH_take (i := 23) (oi := ⟨some 35, _, _, _, _, _⟩) (v := undef) rfl (by kernel_rfl) (by kernel_rfl) (by kernel_rfl) (fun _ _ _ h => h) (Or.inr ⟨by rfl, rfl⟩) hHeld ?_
          simp only [Act.put, List.setIfInBounds_toArray, List.set_cons_zero, List.set_cons_succ]
          refine wpAnyH_take (i := 24) (oi := ⟨some 36, _, _, _, _, _⟩) (v := undef) rfl (by kernel_rfl) (by kernel_rfl) (by kernel_rfl) (fun _ _ _ h => h) (Or.inr ⟨by rfl, rfl⟩) hHeld ?_
          simp only [Act.put, List.setIfInBounds_toArray, List.set_cons_zero, List.set_cons_succ]
          refine wpAnyH_take (i := 25) (oi := ⟨some 37, _, _, _, _, _⟩) (v := undef) rfl (by kernel_rfl) (by kernel_rfl) (by kernel_rfl) (fun _ _ _ h => h) (Or.inr ⟨by rfl, rfl⟩) hHeld ?_
          simp only [Act.put, List.setIfInBounds_toArray, List.set_cons_zero, List.set_cons_succ]
          refine wpAnyH_take (i := 26) (oi := ⟨some 38, _, _, _, _, _⟩) (v := ?va26) rfl (by kernel_rfl) (by kernel_rfl) (by kernel_rfl) (fun _ _ _ h => h) (Or.inl ⟨by rfl, ?ya26⟩) hHeld ?ra26
          case ya26 => (intro wq hSw; (try dsimp only at hSw); go_simp; first | done | with_reducible rfl)
          simp only [Act.put, List.setIfInBounds_toArray, List.set_cons_zero, List.set_cons_succ]
          refine wpAnyH_done (by kernel_rfl) ?_ _
          all_goals
            go_split_ands
            go_wp2_with fail
            go_ret
            exact ⟨ret_bool (by rw [HF.out]), hBW.trans (Below.mono (by assumption) hBW.size)⟩
        · by_cases h0 : j = 0
          · have NX : Hid (∀ i', i' < j + 1 → okAt ps i') := Lib.hid (fun i' hi' p' hp' => by
              have : i' = j := by omega
              subst this
              rw [HP.out] at hp'
              cases hp'
              exact ⟨hbk, hvr, fun q hq => by omega⟩)
            have g0 : decide ((0 : Int) < (j : Int)) = false := by simp; omega
            have g0' : decide (0 < j) = false := by simp; omega
            clear hvr hbk h0
            refine wp_region_held_drew (S := (fun w' => Below W.heap.size W w' ∧ w'.cell? ⟨wr.heap.size, 0, none⟩ = some (.string p.key) ∧ w'.cell? ⟨wr.heap.size, 1, none⟩ = some (.int .i64 p.v.kind) ∧ w'.cell? ⟨wr.heap.size, 2, none⟩ = some (.int .i64 p.v.n) ∧ w'.cell? ⟨wr.heap.size, 3, none⟩ = some (.string p.v.s))) (by kernel_rfl) (KS.out _ (Below.refl _ _).drew) (fun hHeld => ?_)
            refine wpAnyH_take (i := 0) (oi := ⟨some 12, _, _, _, _, _⟩) (v := ?vb0) rfl (by kernel_rfl) (by kernel_rfl) (by kernel_rfl) (fun _ _ _ h => h) (Or.inl ⟨by rfl, ?yb0⟩) hHeld ?rb0
            case yb0 => (intro wq hSw; (try dsimp only at hSw); go_simp; first | done | with_reducible rfl)
            simp only [Act.put, List.setIfInBounds_toArray, List.set_cons_zero, List.set_cons_succ]
            refine wpAnyH_take (i := 1) (oi := ⟨some 13, _, _, _, _, _⟩) (v := ?vb1) rfl (by kernel_rfl) (by kernel_rfl) (by kernel_rfl) (fun _ _ _ h => h) (Or.inl ⟨by rfl, ?yb1⟩) hHeld ?rb1
            case yb1 => (intro wq hSw; (try dsimp only at hSw); go_simp; first | done | with_reducible rfl)
            simp only [Act.put, List.setIfInBounds_toArray, List.set_cons_zero, List.set_cons_succ]
            refine wpAnyH_ready (rs := [2]) (by kernel_rfl) (by simp) ?_
            refine AllReadyH.cons (o := ⟨some 14, _, _, _, _, _⟩) rfl (fun K hK => ?_) AllReadyH.nil
            go_simp
            refine hK.out _ _ ?sb2 (fun hHeld => ?_)
            case sb2 => (first | exact KS.out _ (below_al (Below.refl _ _) _).drew | exact KS.out _ (below_then (below_al (Below.refl _ _) _).drew hbc) | exact KS.out _ (below_al hHeld.1 _) | exact KS.out _ (below_then hHeld.1 hbd) | exact KS.out _ (below_then hHeld.1 hbe))
            clear hK K
            try simp only [Act.put, List.setIfInBounds_toArray, List.set_cons_zero, List.set_cons_succ]
            refine wpAnyH_ready (rs := [3]) (by kernel_rfl) (by simp) ?_
            refine AllReadyH.cons (o := ⟨some 15, _, _, _, _, _⟩) rfl (fun K hK => ?_) AllReadyH.nil
            go_simp
            refine (lright_one W.heap.size 1 p.key 9 (0, 0) _ ?n1b HS.out).mono ?_
            case n1b => exact heap_new W _
            rintro e wc ⟨rfl, hbc⟩
            rw [HB.out]
            go_wp2_with fail
            refine hK.out _ _ ?sb3 (fun hHeld => ?_)
            case sb3 => (first | exact KS.out _ (below_al (Below.refl _ _) _).drew | exact KS.out _ (below_then (below_al (Below.refl _ _) _).drew hbc) | exact KS.out _ (below_al hHeld.1 _) | exact KS.out _ (below_then hHeld.1 hbd) | exact KS.out _ (below_then hHeld.1 hbe))
            clear hK K
            try simp only [Act.put, List.setIfInBounds_toArray, List.set_cons_zero, List.set_cons_succ]
            refine wpAnyH_take (i := 4) (oi := ⟨some 16, _, _, _, _, _⟩) (v := ?vb4) rfl (by kernel_rfl) (by kernel_rfl) (by kernel_rfl) (fun _ _ _ h => h) (Or.inl ⟨by rfl, ?yb4⟩) hHeld ?rb4
            case yb4 => (intro wq hSw; (try dsimp only at hSw); go_simp; first | done | with_reducible rfl)
            simp only [Act.put, List.setIfInBounds_toArray, List.set_cons_zero, List.set_cons_succ]
            refine wpAnyH_take (i := 5) (oi := ⟨some 17, _, _, _, _, _⟩) (v := ?vb5) rfl (by kernel_rfl) (by kernel_rfl) (by kernel_rfl) (fun _ _ _ h => h) (Or.inl ⟨by rfl, ?yb5⟩) hHeld ?rb5
            case yb5 => (intro wq hSw; (try dsimp only at hSw); go_simp; first | done | with_reducible rfl)
            simp only [Act.put, List.setIfInBounds_toArray, List.set_cons_zero, List.set_cons_succ]
            refine wpAnyH_take (i := 6) (oi := ⟨some 18, _, _, _, _, _⟩) (v := ?vb6) rfl (by kernel_rfl) (by kernel_rfl) (by kernel_rfl) (fun _ _ _ h => h) (Or.inl ⟨by rfl, ?yb6⟩) hHeld ?rb6
            case yb6 => (intro wq hSw; (try dsimp only at hSw); go_simp; first | done | with_reducible rfl)
            simp only [Act.put, List.setIfInBounds_toArray, List.set_cons_zero, List.set_cons_succ]
            refine wpAnyH_take (i := 7) (oi := ⟨some 19, _, _, _, _, _⟩) (v := ?vb7) rfl (by kernel_rfl) (by kernel_rfl) (by kernel_rfl) (fun _ _ _ h => h) (Or.inl ⟨by rfl, ?yb7⟩) hHeld ?rb7
            case yb7 => (intro wq hSw; (try dsimp only at hSw); go_simp; first | done | with_reducible rfl)
            simp only [Act.put, List.setIfInBounds_toArray, List.set_cons_zero, List.set_cons_succ]
            refine wpAnyH_ready (rs := [8]) (by kernel_rfl) (by simp) ?_
            refine AllReadyH.cons (o := ⟨some 20, _, _, _, _, _⟩) rfl (fun K hK => ?_) AllReadyH.nil
            go_simp
            refine hK.out _ _ ?sb8 (fun hHeld => ?_)
            case sb8 => (first | exact KS.out _ (below_al (Below.refl _ _) _).drew | exact KS.out _ (below_then (below_al (Below.refl _ _) _).drew hbc) | exact KS.out _ (below_al hHeld.1 _) | exact KS.out _ (below_then hHeld.1 hbd) | exact KS.out _ (below_then hHeld.1 hbe))
            clear hK K
            try simp only [Act.put, List.setIfInBounds_toArray, List.set_cons_zero, List.set_cons_succ]
            refine wpAnyH_ready (rs := [9]) (by kernel_rfl) (by simp) ?_
            refine AllReadyH.cons (o := ⟨some 21, _, _, _, _, _⟩) rfl (fun K hK => ?_) AllReadyH.nil
            go_simp
            refine (vright_one _ 1 p.v 60 (0, 0) _ ?n2b HV.out).mono ?_
            case n2b => exact heap_new _ _
            rintro e wd ⟨rfl, hbd⟩
            rw [HR.out]
            go_wp2_with fail
            refine hK.out _ _ ?sb9 (fun hHeld => ?_)
            case sb9 => (first | exact KS.out _ (below_al (Below.refl _ _) _).drew | exact KS.out _ (below_then (below_al (Below.refl _ _) _).drew hbc) | exact KS.out _ (below_al hHeld.1 _) | exact KS.out _ (below_then hHeld.1 hbd) | exact KS.out _ (below_then hHeld.1 hbe))
            clear hK K
            try simp only [Act.put, List.setIfInBounds_toArray, List.set_cons_zero, List.set_cons_succ]
            refine wpAnyH_take (i := 10) (oi := ⟨some 22, _, _, _, _, _⟩) (v := ?vb10) rfl (by kernel_rfl) (by kernel_rfl) (by kernel_rfl) (fun _ _ _ h => h) (Or.inl ⟨by rfl, ?yb10⟩) hHeld ?rb10
            case yb10 => (intro wq hSw; (try dsimp only at hSw); go_simp; first | done | with_reducible rfl)
            simp only [Act.put, List.setIfInBounds_toArray, List.set_cons_zero, List.set_cons_succ]
            refine wpAnyH_take (i := 11) (oi := ⟨some 23, _, _, _, _, _⟩) (v := ?vb11) rfl (by kernel_rfl) (by kernel_rfl) (by kernel_rfl) (fun _ _ _ h => h) (Or.inl ⟨by rfl, ?yb11⟩) hHeld ?rb11
            case yb11 => (intro wq hSw; (try dsimp only at hSw); go_simp; first | done | with_reducible rfl)
            simp only [Act.put, List.setIfInBounds_toArray, List.set_cons_zero, List.set_cons_succ]
            refine wpAnyH_take (i := 12) (oi := ⟨some 24, _, _, _, _, _⟩) (v := ?vb12) rfl (by kernel_rfl) (by kernel_rfl) (by kernel_rfl) (fun _ _ _ h => h) (Or.inl ⟨by rfl, ?yb12⟩) hHeld ?rb12
            case yb12 => (intro wq hSw; (try dsimp only at hSw); go_simp; first | done | with_reducible rfl)
            simp only [Act.put, List.setIfInBounds_toArray, List.set_cons_zero, List.set_cons_succ]
            refine wpAnyH_take (i := 13) (oi := ⟨some 25, _, _, _, _, _⟩) (v := ?vb13) rfl (by kernel_rfl) (by kernel_rfl) (by kernel_rfl) (fun _ _ _ h => h) (Or.inl ⟨by rfl, ?yb13⟩) hHeld ?rb13
            case yb13 => (intro wq hSw; (try dsimp only at hSw); go_simp; first | done | with_reducible rfl)
            simp only [Act.put, List.setIfInBounds_toArray, List.set_cons_zero, List.set_cons_succ]
            refine wpAnyH_take (i := 14) (oi := ⟨some 26, _, _, _, _, _⟩) (v := ?vb14) rfl (by kernel_rfl) (by kernel_rfl) (by kernel_rfl) (fun _ _ _ h => h) (Or.inl ⟨by rfl, ?yb14⟩) hHeld ?rb14
            case yb14 => (intro wq hSw; (try dsimp only at hSw); go_simp; first | done | with_reducible rfl)
            simp only [Act.put, List.setIfInBounds_toArray, List.set_cons_zero, List.set_cons_succ]
            refine wpAnyH_take (i := 15) (oi := ⟨some 27, _, _, _, _, _⟩) (v := ?vb15) rfl (by kernel_rfl) (by kernel_rfl) (by kernel_rfl) (fun _ _ _ h => h) (Or.inl ⟨by rfl, ?yb15⟩) hHeld ?rb15
            case yb15 => (intro wq hSw; (try dsimp only at hSw); go_simp; first | done | with_reducible rfl)
            simp only [Act.put, List.setIfInBounds_toArray, List.set_cons_zero, List.set_cons_succ]
            refine wpAnyH_take (i := 16) (oi := ⟨some 28, _, _, _, _, _⟩) (v := undef) rfl (by kernel_rfl) (by kernel_rfl) (by kernel_rfl) (fun _ _ _ h => h) (Or.inr ⟨by rfl, rfl⟩) hHeld ?_
            simp only [Act.put, List.setIfInBounds_toArray, List.set_cons_zero, List.set_cons_succ]
            refine wpAnyH_take (i := 17) (oi := ⟨some 29, _, _, _, _, _⟩) (v := undef) rfl (by kernel_rfl) (by kernel_rfl) (by kernel_rfl) (fun _ _ _ h => h) (Or.inr ⟨by rfl, rfl⟩) hHeld ?_
            simp only [Act.put, List.setIfInBounds_toArray, List.set_cons_zero, List.set_cons_succ]
            refine wpAnyH_take (i := 18) (oi := ⟨some 30, _, _, _, _, _⟩) (v := undef) rfl (by kernel_rfl) (by kernel_rfl) (by kernel_rfl) (fun _ _ _ h => h) (Or.inr ⟨by rfl, rfl⟩) hHeld ?_
            simp only [Act.put, List.setIfInBounds_toArray, List.set_cons_zero, List.set_cons_succ]
            refine wpAnyH_take (i := 19) (oi := ⟨some 31, _, _, _, _, _⟩) (v := undef) rfl (by kernel_rfl) (by kernel_rfl) (by kernel_rfl) (fun _ _ _ h => h) (Or.inr ⟨by rfl, rfl⟩) hHeld ?_
            simp only [Act.put, List.setIfInBounds_toArray, List.set_cons_zero, List.set_cons_succ]
            refine wpAnyH_take (i := 20) (oi := ⟨some 32, _, _, _, _, _⟩) (v := undef) rfl (by kernel_rfl) (by kernel_rfl) (by kernel_rfl) (fun _ _ _ h => h) (Or.inr ⟨by rfl, rfl⟩) hHeld ?_
            simp only [Act.put, List.setIfInBounds_toArray, List.set_cons_zero, List.set_cons_succ]
            refine wpAnyH_take (i := 21) (oi := ⟨some 33, _, _, _, _, _⟩) (v := undef) rfl (by kernel_rfl) (by kernel_rfl) (by kernel_rfl) (fun _ _ _ h => h) (Or.inr ⟨by rfl, rfl⟩) hHeld ?_
            simp only [Act.put, List.setIfInBounds_toArray, List.set_cons_zero, List.set_cons_succ]
            refine wpAnyH_take (i := 22) (oi := ⟨some 34, _, _, _, _, _⟩) (v := undef) rfl (by kernel_rfl) (by kernel_rfl) (by kernel_rfl) (fun _ _ _ h => h) (Or.inr ⟨by rfl, rfl⟩) hHeld ?_
            simp only [Act.put, List.setIfInBounds_toArray, List.set_cons_zero, List.set_cons_succ]
            refine wpAnyH_take (i := 23) (oi := ⟨some 35, _, _, _, _, _⟩) (v := undef) rfl (by kernel_rfl) (by kernel_rfl) (by kernel_rfl) (fun _ _ _ h => h) (Or.inr ⟨by rfl, rfl⟩) hHeld ?_
            simp only [Act.put, List.setIfInBounds_toArray, List.set_cons_zero, List.set_cons_succ]
            refine wpAnyH_take (i := 24) (oi := ⟨some 36, _, _, _, _, _⟩) (v := undef) rfl (by kernel_rfl) (by kernel_rfl) (by kernel_rfl) (fun _ _ _ h => h) (Or.inr ⟨by rfl, rfl⟩) hHeld ?_
            simp only [Act.put, List.setIfInBounds_toArray, List.set_cons_zero, List.set_cons_succ]
            refine wpAnyH_take (i := 25) (oi := ⟨some 37, _, _, _, _, _⟩) (v := ?vb25) rfl (by kernel_rfl) (by kernel_rfl) (by kernel_rfl) (fun _ _ _ h => h) (Or.inl ⟨by rfl, ?yb25⟩) hHeld ?rb25
            case yb25 => (intro wq hSw; (try dsimp only at hSw); go_simp; first | done | with_reducible rfl)
            simp only [Act.put, List.setIfInBounds_toArray, List.set_cons_zero, List.set_cons_succ]
            refine wpAnyH_take (i := 26) (oi := ⟨some 38, _, _, _, _, _⟩) (v := ?vb26) rfl (by kernel_rfl) (by kernel_rfl) (by kernel_rfl) (fun _ _ _ h => h) (Or.inl ⟨by rfl, ?yb26⟩) hHeld ?rb26
            case yb26 => (intro wq hSw; (try dsimp only at hSw); go_simp; first | done | with_reducible rfl)
            simp only [Act.put, List.setIfInBounds_toArray, List.set_cons_zero, List.set_cons_succ]
            refine wpAnyH_done (by kernel_rfl) ?_ _
            all_goals
              go_split_ands
              go_wp2_with fail
              exact ⟨⟨j + 1, by omega, by go_num, NX.out, hBW.trans (Below.mono (by assumption) hBW.size)⟩, by simp [intOf]; omega⟩
          · obtain ⟨k, hjk⟩ : ∃ k, j = k + 1 := ⟨j - 1, by omega⟩
            obtain ⟨q, hq⟩ : ∃ q, ps[k]? = some q := ⟨_, List.getElem?_eq_getElem (by omega)⟩
            have g0 : decide ((0 : Int) < (j : Int)) = true := by simp; omega
            have g0' : decide (0 < j) = true := by simp; omega
            have g1 : IntKind.i64.wrap ((j : Int) - 1) = (k : Int) := by rw [IntWalk.i64_in _ (by omega)]; omega
            have g2 : (0 : Int) ≤ (k : Int) := by omega
            have g3 : (k : Int) < (ps.length : Int) := by omega
            have ks2 : ∀ w', Below W.heap.size W w' → Below W.heap.size W w' ∧ w'.cell? ⟨wr.heap.size, 0, none⟩ = some (.string p.key) ∧ w'.cell? ⟨wr.heap.size, 1, none⟩ = some (.int .i64 p.v.kind) ∧ w'.cell? ⟨wr.heap.size, 2, none⟩ = some (.int .i64 p.v.n) ∧ w'.cell? ⟨wr.heap.size, 3, none⟩ = some (.string p.v.s) ∧ w'.cell? ⟨b, off + k * 4, none⟩ = some (.string q.key) ∧ w'.cell? ⟨b, off + k * 4 + 1, none⟩ = some (.int .i64 q.v.kind) ∧ w'.cell? ⟨b, off + k * 4 + 2, none⟩ = some (.int .i64 q.v.n) ∧ w'.cell? ⟨b, off + k * 4 + 3, none⟩ = some (.string q.v.s) := fun w' hb => by
              have e := hb.block _ HAT.out.lt
              obtain ⟨r0, r1, r2, r3⟩ := (HAT.out.of_block e).cells k q hq
              obtain ⟨s0, s1, s2, s3, s4⟩ := KS.out w' hb
              exact ⟨s0, s1, s2, s3, s4, r0, r1, r2, r3⟩
            have KP := Lib.hid ks2
            have HQ := Lib.hid (HAT.out.ok q (List.mem_of_getElem? hq)).key
            have HQQ := Lib.hid hq
            have HJK := Lib.hid hjk
            clear ks2 hq hjk h0
            by_cases hc : cmpL (runes q.key) (runes p.key) < 0
            · have NX : Hid (∀ i', i' < j + 1 → okAt ps i') := Lib.hid (fun i' hi' => by
                rcases Nat.lt_succ_iff_lt_or_eq.1 hi' with h | rfl
                · exact HN.out i' h
                · intro p' hp'
                  rw [HP.out] at hp'
                  cases hp'
                  refine ⟨hbk, hvr, fun q' _ hq' => ?_⟩
                  rw [show i' - 1 = k by have := HJK.out; omega, HQQ.out] at hq'
                  cases hq'
                  exact hc)
              clear hvr hbk
              refine wp_region_held_drew (S := (fun w' => Below W.heap.size W w' ∧ w'.cell? ⟨wr.heap.size, 0, none⟩ = some (.string p.key) ∧ w'.cell? ⟨wr.heap.size, 1, none⟩ = some (.int .i64 p.v.kind) ∧ w'.cell? ⟨wr.heap.size, 2, none⟩ = some (.int .i64 p.v.n) ∧ w'.cell? ⟨wr.heap.size, 3, none⟩ = some (.string p.v.s) ∧ w'.cell? ⟨b, off + k * 4, none⟩ = some (.string q.key) ∧ w'.cell? ⟨b, off + k * 4 + 1, none⟩ = some (.int .i64 q.v.kind) ∧ w'.cell? ⟨b, off + k * 4 + 2, none⟩ = some (.int .i64 q.v.n) ∧ w'.cell? ⟨b, off + k * 4 + 3, none⟩ = some (.string q.v.s))) (by kernel_rfl) (KP.out _ (Below.refl _ _).drew) (fun hHeld => ?_)
              refine wpAnyH_take (i := 0) (oi := ⟨some 12, _, _, _, _, _⟩) (v := ?vc0) rfl (by kernel_rfl) (by kernel_rfl) (by kernel_rfl) (fun _ _ _ h => h) (Or.inl ⟨by rfl, ?yc0⟩) hHeld ?rc0
              case yc0 => (intro wq hSw; (try dsimp only at hSw); go_simp; first | done | with_reducible rfl)
              simp only [Act.put, List.setIfInBounds_toArray, List.set_cons_zero, List.set_cons_succ]
              refine wpAnyH_take (i := 1) (oi := ⟨some 13, _, _, _, _, _⟩) (v := ?vc1) rfl (by kernel_rfl) (by kernel_rfl) (by kernel_rfl) (fun _ _ _ h => h) (Or.inl ⟨by rfl, ?yc1⟩) hHeld ?rc1
              case yc1 => (intro wq hSw; (try dsimp only at hSw); go_simp; first | done | with_reducible rfl)
              simp only [Act.put, List.setIfInBounds_toArray, List.set_cons_zero, List.set_cons_succ]
              refine wpAnyH_ready (rs := [2]) (by kernel_rfl) (by simp) ?_
              refine AllReadyH.cons (o := ⟨some 14, _, _, _, _, _⟩) rfl (fun K hK => ?_) AllReadyH.nil
              go_simp
              refine hK.out _ _ ?sc2 (fun hHeld => ?_)
              case sc2 => (first | exact KP.out _ (below_al (Below.refl _ _) _).drew | exact KP.out _ (below_then (below_al (Below.refl _ _) _).drew hbc) | exact KP.out _ (below_al hHeld.1 _) | exact KP.out _ (below_then hHeld.1 hbd) | exact KP.out _ (below_then hHeld.1 hbe))
              clear hK K
              try simp only [Act.put, List.setIfInBounds_toArray, List.set_cons_zero, List.set_cons_succ]
              refine wpAnyH_ready (rs := [3]) (by kernel_rfl) (by simp) ?_
              refine AllReadyH.cons (o := ⟨some 15, _, _, _, _, _⟩) rfl (fun K hK => ?_) AllReadyH.nil
              go_simp
              refine (lright_one W.heap.size 1 p.key 9 (0, 0) _ ?n1c HS.out).mono ?_
              case n1c => exact heap_new W _
              rintro e wc ⟨rfl, hbc⟩
              rw [HB.out]
              go_wp2_with fail
              refine hK.out _ _ ?sc3 (fun hHeld => ?_)
              case sc3 => (first | exact KP.out _ (below_al (Below.refl _ _) _).drew | exact KP.out _ (below_then (below_al (Below.refl _ _) _).drew hbc) | exact KP.out _ (below_al hHeld.1 _) | exact KP.out _ (below_then hHeld.1 hbd) | exact KP.out _ (below_then hHeld.1 hbe))
              clear hK K
              try simp only [Act.put, List.setIfInBounds_toArray, List.set_cons_zero, List.set_cons_succ]
              refine wpAnyH_take (i := 4) (oi := ⟨some 16, _, _, _, _, _⟩) (v := ?vc4) rfl (by kernel_rfl) (by kernel_rfl) (by kernel_rfl) (fun _ _ _ h => h) (Or.inl ⟨by rfl, ?yc4⟩) hHeld ?rc4
              case yc4 => (intro wq hSw; (try dsimp only at hSw); go_simp; first | done | with_reducible rfl)
              simp only [Act.put, List.setIfInBounds_toArray, List.set_cons_zero, List.set_cons_succ]
              refine wpAnyH_take (i := 5) (oi := ⟨some 17, _, _, _, _, _⟩) (v := ?vc5) rfl (by kernel_rfl) (by kernel_rfl) (by kernel_rfl) (fun _ _ _ h => h) (Or.inl ⟨by rfl, ?yc5⟩) hHeld ?rc5
              case yc5 => (intro wq hSw; (try dsimp only at hSw); go_simp; first | done | with_reducible rfl)
              simp only [Act.put, List.setIfInBounds_toArray, List.set_cons_zero, List.set_cons_succ]
              refine wpAnyH_take (i := 6) (oi := ⟨some 18, _, _, _, _, _⟩) (v := ?vc6) rfl (by kernel_rfl) (by kernel_rfl) (by kernel_rfl) (fun _ _ _ h => h) (Or.inl ⟨by rfl, ?yc6⟩) hHeld ?rc6
              case yc6 => (intro wq hSw; (try dsimp only at hSw); go_simp; first | done | with_reducible rfl)
              simp only [Act.put, List.setIfInBounds_toArray, List.set_cons_zero, List.set_cons_succ]
              refine wpAnyH_take (i := 7) (oi := ⟨some 19, _, _, _, _, _⟩) (v := ?vc7) rfl (by kernel_rfl) (by kernel_rfl) (by kernel_rfl) (fun _ _ _ h => h) (Or.inl ⟨by rfl, ?yc7⟩) hHeld ?rc7
              case yc7 => (intro wq hSw; (try dsimp only at hSw); go_simp; first | done | with_reducible rfl)
              simp only [Act.put, List.setIfInBounds_toArray, List.set_cons_zero, List.set_cons_succ]
              refine wpAnyH_ready (rs := [8]) (by kernel_rfl) (by simp) ?_
              refine AllReadyH.cons (o := ⟨some 20, _, _, _, _, _⟩) rfl (fun K hK => ?_) AllReadyH.nil
              go_simp
              refine hK.out _ _ ?sc8 (fun hHeld => ?_)
              case sc8 => (first | exact KP.out _ (below_al (Below.refl _ _) _).drew | exact KP.out _ (below_then (below_al (Below.refl _ _) _).drew hbc) | exact KP.out _ (below_al hHeld.1 _) | exact KP.out _ (below_then hHeld.1 hbd) | exact KP.out _ (below_then hHeld.1 hbe))
              clear hK K
              try simp only [Act.put, List.setIfInBounds_toArray, List.set_cons_zero, List.set_cons_succ]
              refine wpAnyH_ready (rs := [9]) (by kernel_rfl) (by simp) ?_
              refine AllReadyH.cons (o := ⟨some 21, _, _, _, _, _⟩) rfl (fun K hK => ?_) AllReadyH.nil
              go_simp
              refine (vright_one _ 1 p.v 60 (0, 0) _ ?n2c HV.out).mono ?_
              case n2c => exact heap_new _ _
              rintro e wd ⟨rfl, hbd⟩
              rw [HR.out]
              go_wp2_with fail
              refine hK.out _ _ ?sc9 (fun hHeld => ?_)
              case sc9 => (first | exact KP.out _ (below_al (Below.refl _ _) _).drew | exact KP.out _ (below_then (below_al (Below.refl _ _) _).drew hbc) | exact KP.out _ (below_al hHeld.1 _) | exact KP.out _ (below_then hHeld.1 hbd) | exact KP.out _ (below_then hHeld.1 hbe))
              clear hK K
              try simp only [Act.put, List.setIfInBounds_toArray, List.set_cons_zero, List.set_cons_succ]
              refine wpAnyH_take (i := 10) (oi := ⟨some 22, _, _, _, _, _⟩) (v := ?vc10) rfl (by kernel_rfl) (by kernel_rfl) (by kernel_rfl) (fun _ _ _ h => h) (Or.inl ⟨by rfl, ?yc10⟩) hHeld ?rc10
              case yc10 => (intro wq hSw; (try dsimp only at hSw); go_simp; first | done | with_reducible rfl)
              simp only [Act.put, List.setIfInBounds_toArray, List.set_cons_zero, List.set_cons_succ]
              refine wpAnyH_take (i := 11) (oi := ⟨some 23, _, _, _, _, _⟩) (v := ?vc11) rfl (by kernel_rfl) (by kernel_rfl) (by kernel_rfl) (fun _ _ _ h => h) (Or.inl ⟨by rfl, ?yc11⟩) hHeld ?rc11
              case yc11 => (intro wq hSw; (try dsimp only at hSw); go_simp; first | done | with_reducible rfl)
              simp only [Act.put, List.setIfInBounds_toArray, List.set_cons_zero, List.set_cons_succ]
              refine wpAnyH_take (i := 12) (oi := ⟨some 24, _, _, _, _, _⟩) (v := ?vc12) rfl (by kernel_rfl) (by kernel_rfl) (by kernel_rfl) (fun _ _ _ h => h) (Or.inl ⟨by rfl, ?yc12⟩) hHeld ?rc12
              case yc12 => (intro wq hSw; (try dsimp only at hSw); go_simp; first | done | with_reducible rfl)
              simp only [Act.put, List.setIfInBounds_toArray, List.set_cons_zero, List.set_cons_succ]
              refine wpAnyH_take (i := 13) (oi := ⟨some 25, _, _, _, _, _⟩) (v := ?vc13) rfl (by kernel_rfl) (by kernel_rfl) (by kernel_rfl) (fun _ _ _ h => h) (Or.inl ⟨by rfl, ?yc13⟩) hHeld ?rc13
              case yc13 => (intro wq hSw; (try dsimp only at hSw); go_simp; first | done | with_reducible rfl)
              simp only [Act.put, List.setIfInBounds_toArray, List.set_cons_zero, List.set_cons_succ]
              refine wpAnyH_take (i := 14) (oi := ⟨some 26, _, _, _, _, _⟩) (v := ?vc14) rfl (by kernel_rfl) (by kernel_rfl) (by kernel_rfl) (fun _ _ _ h => h) (Or.inl ⟨by rfl, ?yc14⟩) hHeld ?rc14
              case yc14 => (intro wq hSw; (try dsimp only at hSw); go_simp; first | done | with_reducible rfl)
              simp only [Act.put, List.setIfInBounds_toArray, List.set_cons_zero, List.set_cons_succ]
              refine wpAnyH_take (i := 15) (oi := ⟨some 27, _, _, _, _, _⟩) (v := ?vc15) rfl (by kernel_rfl) (by kernel_rfl) (by kernel_rfl) (fun _ _ _ h => h) (Or.inl ⟨by rfl, ?yc15⟩) hHeld ?rc15
              case yc15 => (intro wq hSw; (try dsimp only at hSw); go_simp; first | done | with_reducible rfl)
              simp only [Act.put, List.setIfInBounds_toArray, List.set_cons_zero, List.set_cons_succ]
              refine wpAnyH_take (i := 16) (oi := ⟨some 28, _, _, _, _, _⟩) (v := ?vc16) rfl (by kernel_rfl) (by kernel_rfl) (by kernel_rfl) (fun _ _ _ h => h) (Or.inl ⟨by rfl, ?yc16⟩) hHeld ?rc16
              case yc16 => (intro wq hSw; (try dsimp only at hSw); go_simp; first | done | with_reducible rfl)
              simp only [Act.put, List.setIfInBounds_toArray, List.set_cons_zero, List.set_cons_succ]
              refine wpAnyH_take (i := 17) (oi := ⟨some 29, _, _, _, _, _⟩) (v := ?vc17) rfl (by kernel_rfl) (by kernel_rfl) (by kernel_rfl) (fun _ _ _ h => h) (Or.inl ⟨by rfl, ?yc17⟩) hHeld ?rc17
              case yc17 => (intro wq hSw; (try dsimp only at hSw); go_simp; first | done | with_reducible rfl)
              simp only [Act.put, List.setIfInBounds_toArray, List.set_cons_zero, List.set_cons_succ]
              refine wpAnyH_take (i := 18) (oi := ⟨some 30, _, _, _, _, _⟩) (v := ?vc18) rfl (by kernel_rfl) (by kernel_rfl) (by kernel_rfl) (fun _ _ _ h => h) (Or.inl ⟨by rfl, ?yc18⟩) hHeld ?rc18
              case yc18 => (intro wq hSw; (try dsimp only at hSw); go_simp; first | done | with_reducible rfl)
              simp only [Act.put, List.setIfInBounds_toArray, List.set_cons_zero, List.set_cons_succ]
              refine wpAnyH_take (i := 19) (oi := ⟨some 31, _, _, _, _, _⟩) (v := ?vc19) rfl (by kernel_rfl) (by kernel_rfl) (by kernel_rfl) (fun _ _ _ h => h) (Or.inl ⟨by rfl, ?yc19⟩) hHeld ?rc19
              case yc19 => (intro wq hSw; (try dsimp only at hSw); go_simp; first | done | with_reducible rfl)
              simp only [Act.put, List.setIfInBounds_toArray, List.set_cons_zero, List.set_cons_succ]
              refine wpAnyH_take (i := 20) (oi := ⟨some 32, _, _, _, _, _⟩) (v := ?vc20) rfl (by kernel_rfl) (by kernel_rfl) (by kernel_rfl) (fun _ _ _ h => h) (Or.inl ⟨by rfl, ?yc20⟩) hHeld ?rc20
              case yc20 => (intro wq hSw; (try dsimp only at hSw); go_simp; first | done | with_reducible rfl)
              simp only [Act.put, List.setIfInBounds_toArray, List.set_cons_zero, List.set_cons_succ]
              refine wpAnyH_take (i := 21) (oi := ⟨some 33, _, _, _, _, _⟩) (v := ?vc21) rfl (by kernel_rfl) (by kernel_rfl) (by kernel_rfl) (fun _ _ _ h => h) (Or.inl ⟨by rfl, ?yc21⟩) hHeld ?rc21
              case yc21 => (intro wq hSw; (try dsimp only at hSw); go_simp; first | done | with_reducible rfl)
              simp only [Act.put, List.setIfInBounds_toArray, List.set_cons_zero, List.set_cons_succ]
              refine wpAnyH_take (i := 22) (oi := ⟨some 34, _, _, _, _, _⟩) (v := ?vc22) rfl (by kernel_rfl) (by kernel_rfl) (by kernel_rfl) (fun _ _ _ h => h) (Or.inl ⟨by rfl, ?yc22⟩) hHeld ?rc22
              case yc22 => (intro wq hSw; (try dsimp only at hSw); go_simp; first | done | with_reducible rfl)
              simp only [Act.put, List.setIfInBounds_toArray, List.set_cons_zero, List.set_cons_succ]
              refine wpAnyH_ready (rs := [23]) (by kernel_rfl) (by simp) ?_
              refine AllReadyH.cons (o := ⟨some 35, _, _, _, _, _⟩) rfl (fun K hK => ?_) AllReadyH.nil
              go_simp
              refine (by_any q p.key _ HQ.out HS2.out).mono ?_
              rintro e we ⟨rfl, hbe⟩
              go_wp2_with fail
              refine hK.out _ _ ?sc23 (fun hHeld => ?_)
              case sc23 => (first | exact KP.out _ (below_al (Below.refl _ _) _).drew | exact KP.out _ (below_then (below_al (Below.refl _ _) _).drew hbc) | exact KP.out _ (below_al hHeld.1 _) | exact KP.out _ (below_then hHeld.1 hbd) | exact KP.out _ (below_then hHeld.1 hbe))
              clear hK K
              try simp only [Act.put, List.setIfInBounds_toArray, List.set_cons_zero, List.set_cons_succ]
              refine wpAnyH_take (i := 24) (oi := ⟨some 36, _, _, _, _, _⟩) (v := ?vc24) rfl (by kernel_rfl) (by kernel_rfl) (by kernel_rfl) (fun _ _ _ h => h) (Or.inl ⟨by rfl, ?yc24⟩) hHeld ?rc24
              case yc24 => (intro wq hSw; (try dsimp only at hSw); go_simp; first | done | with_reducible rfl)
              simp only [Act.put, List.setIfInBounds_toArray, List.set_cons_zero, List.set_cons_succ]
              refine wpAnyH_take (i := 25) (oi := ⟨some 37, _, _, _, _, _⟩) (v := ?vc25) rfl (by kernel_rfl) (by kernel_rfl) (by kernel_rfl) (fun _ _ _ h => h) (Or.inl ⟨by rfl, ?yc25⟩) hHeld ?rc25
              case yc25 => (intro wq hSw; (try dsimp only at hSw); go_simp; first | done | with_reducible rfl)
              simp only [Act.put, List.setIfInBounds_toArray, List.set_cons_zero, List.set_cons_succ]
              refine wpAnyH_take (i := 26) (oi := ⟨some 38, _, _, _, _, _⟩) (v := ?vc26) rfl (by kernel_rfl) (by kernel_rfl) (by kernel_rfl) (fun _ _ _ h => h) (Or.inl ⟨by rfl, ?yc26⟩) hHeld ?rc26
              case yc26 => (intro wq hSw; (try dsimp only at hSw); go_simp; first | done | with_reducible rfl)
              simp only [Act.put, List.setIfInBounds_toArray, List.set_cons_zero, List.set_cons_succ]
              refine wpAnyH_done (by kernel_rfl) ?_ _
              all_goals
                go_split_ands
                go_wp2_with fail
                exact ⟨⟨j + 1, by omega, by go_num, NX.out, hBW.trans (Below.mono (by assumption) hBW.size)⟩, by simp [intOf]; omega⟩
            · have HF := Lib.hid (rightPs_no hlt (fun ho => hc ((ho p HP.out).2.2 q (by have := HJK.out; omega) (by rw [show j - 1 = k by have := HJK.out; omega]; exact HQQ.out))))
              clear hvr hbk
              refine wp_region_held_drew (S := (fun w' => Below W.heap.size W w' ∧ w'.cell? ⟨wr.heap.size, 0, none⟩ = some (.string p.key) ∧ w'.cell? ⟨wr.heap.size, 1, none⟩ = some (.int .i64 p.v.kind) ∧ w'.cell? ⟨wr.heap.size, 2, none⟩ = some (.int .i64 p.v.n) ∧ w'.cell? ⟨wr.heap.size, 3, none⟩ = some (.string p.v.s) ∧ w'.cell? ⟨b, off + k * 4, none⟩ = some (.string q.key) ∧ w'.cell? ⟨b, off + k * 4 + 1, none⟩ = some (.int .i64 q.v.kind) ∧ w'.cell? ⟨b, off + k * 4 + 2, none⟩ = some (.int .i64 q.v.n) ∧ w'.cell? ⟨b, off + k * 4 + 3, none⟩ = some (.string q.v.s))) (by kernel_rfl) (KP.out _ (Below.refl _ _).drew) (fun hHeld => ?_)
              refine wpAnyH_take (i := 0) (oi := ⟨some 12, _, _, _, _, _⟩) (v := ?vd0) rfl (by kernel_rfl) (by kernel_rfl) (by kernel_rfl) (fun _ _ _ h => h) (Or.inl ⟨by rfl, ?yd0⟩) hHeld ?rd0
              case yd0 => (intro wq hSw; (try dsimp only at hSw); go_simp; first | done | with_reducible rfl)
              simp only [Act.put, List.setIfInBounds_toArray, List.set_cons_zero, List.set_cons_succ]
              refine wpAnyH_take (i := 1) (oi := ⟨some 13, _, _, _, _, _⟩) (v := ?vd1) rfl (by kernel_rfl) (by kernel_rfl) (by kernel_rfl) (fun _ _ _ h => h) (Or.inl ⟨by rfl, ?yd1⟩) hHeld ?rd1
              case yd1 => (intro wq hSw; (try dsimp only at hSw); go_simp; first | done | with_reducible rfl)
              simp only [Act.put, List.setIfInBounds_toArray, List.set_cons_zero, List.set_cons_succ]
              refine wpAnyH_ready (rs := [2]) (by kernel_rfl) (by simp) ?_
              refine AllReadyH.cons (o := ⟨some 14, _, _, _, _, _⟩) rfl (fun K hK => ?_) AllReadyH.nil
              go_simp
              refine hK.out _ _ ?sd2 (fun hHeld => ?_)
              case sd2 => (first | exact KP.out _ (below_al (Below.refl _ _) _).drew | exact KP.out _ (below_then (below_al (Below.refl _ _) _).drew hbc) | exact KP.out _ (below_al hHeld.1 _) | exact KP.out _ (below_then hHeld.1 hbd) | exact KP.out _ (below_then hHeld.1 hbe))
              clear hK K
              try simp only [Act.put, List.setIfInBounds_toArray, List.set_cons_zero, List.set_cons_succ]
              refine wpAnyH_ready (rs := [3]) (by kernel_rfl) (by simp) ?_
              refine AllReadyH.cons (o := ⟨some 15, _, _, _, _, _⟩) rfl (fun K hK => ?_) AllReadyH.nil
              go_simp
              refine (lright_one W.heap.size 1 p.key 9 (0, 0) _ ?n1d HS.out).mono ?_
              case n1d => exact heap_new W _
              rintro e wc ⟨rfl, hbc⟩
              rw [HB.out]
              go_wp2_with fail
              refine hK.out _ _ ?sd3 (fun hHeld => ?_)
              case sd3 => (first | exact KP.out _ (below_al (Below.refl _ _) _).drew | exact KP.out _ (below_then (below_al (Below.refl _ _) _).drew hbc) | exact KP.out _ (below_al hHeld.1 _) | exact KP.out _ (below_then hHeld.1 hbd) | exact KP.out _ (below_then hHeld.1 hbe))
              clear hK K
              try simp only [Act.put, List.setIfInBounds_toArray, List.set_cons_zero, List.set_cons_succ]
              refine wpAnyH_take (i := 4) (oi := ⟨some 16, _, _, _, _, _⟩) (v := ?vd4) rfl (by kernel_rfl) (by kernel_rfl) (by kernel_rfl) (fun _ _ _ h => h) (Or.inl ⟨by rfl, ?yd4⟩) hHeld ?rd4
              case yd4 => (intro wq hSw; (try dsimp only at hSw); go_simp; first | done | with_reducible rfl)
              simp only [Act.put, List.setIfInBounds_toArray, List.set_cons_zero, List.set_cons_succ]
              refine wpAnyH_take (i := 5) (oi := ⟨some 17, _, _, _, _, _⟩) (v := ?vd5) rfl (by kernel_rfl) (by kernel_rfl) (by kernel_rfl) (fun _ _ _ h => h) (Or.inl ⟨by rfl, ?yd5⟩) hHeld ?rd5
              case yd5 => (intro wq hSw; (try dsimp only at hSw); go_simp; first | done | with_reducible rfl)
              simp only [Act.put, List.setIfInBounds_toArray, List.set_cons_zero, List.set_cons_succ]
              refine wpAnyH_take (i := 6) (oi := ⟨some 18, _, _, _, _, _⟩) (v := ?vd6) rfl (by kernel_rfl) (by kernel_rfl) (by kernel_rfl) (fun _ _ _ h => h) (Or.inl ⟨by rfl, ?yd6⟩) hHeld ?rd6
              case yd6 => (intro wq hSw; (try dsimp only at hSw); go_simp; first | done | with_reducible rfl)
              simp only [Act.put, List.setIfInBounds_toArray, List.set_cons_zero, List.set_cons_succ]
              refine wpAnyH_take (i := 7) (oi := ⟨some 19, _, _, _, _, _⟩) (v := ?vd7) rfl (by kernel_rfl) (by kernel_rfl) (by kernel_rfl) (fun _ _ _ h => h) (Or.inl ⟨by rfl, ?yd7⟩) hHeld ?rd7
              case yd7 => (intro wq hSw; (try dsimp only at hSw); go_simp; first | done | with_reducible rfl)
              simp only [Act.put, List.setIfInBounds_toArray, List.set_cons_zero, List.set_cons_succ]
              refine wpAnyH_ready (rs := [8]) (by kernel_rfl) (by simp) ?_
              refine AllReadyH.cons (o := ⟨some 20, _, _, _, _, _⟩) rfl (fun K hK => ?_) AllReadyH.nil
              go_simp
              refine hK.out _ _ ?sd8 (fun hHeld => ?_)
              case sd8 => (first | exact KP.out _ (below_al (Below.refl _ _) _).drew | exact KP.out _ (below_then (below_al (Below.refl _ _) _).drew hbc) | exact KP.out _ (below_al hHeld.1 _) | exact KP.out _ (below_then hHeld.1 hbd) | exact KP.out _ (below_then hHeld.1 hbe))
              clear hK K
              try simp only [Act.put, List.setIfInBounds_toArray, List.set_cons_zero, List.set_cons_succ]
              refine wpAnyH_ready (rs := [9]) (by kernel_rfl) (by simp) ?_
              refine AllReadyH.cons (o := ⟨some 21, _, _, _, _, _⟩) rfl (fun K hK => ?_) AllReadyH.nil
              go_simp
              refine (vright_one _ 1 p.v 60 (0, 0) _ ?n2d HV.out).mono ?_
              case n2d => exact heap_new _ _
              rintro e wd ⟨rfl, hbd⟩
              rw [HR.out]
              go_wp2_with fail
              refine hK.out _ _ ?sd9 (fun hHeld => ?_)
              case sd9 => (first | exact KP.out _ (below_al (Below.refl _ _) _).drew | exact KP.out _ (below_then (below_al (Below.refl _ _) _).drew hbc) | exact KP.out _ (below_al hHeld.1 _) | exact KP.out _ (below_then hHeld.1 hbd) | exact KP.out _ (below_then hHeld.1 hbe))
              clear hK K
              try simp only [Act.put, List.setIfInBounds_toArray, List.set_cons_zero, List.set_cons_succ]
              refine wpAnyH_take (i := 10) (oi := ⟨some 22, _, _, _, _, _⟩) (v := ?vd10) rfl (by kernel_rfl) (by kernel_rfl) (by kernel_rfl) (fun _ _ _ h => h) (Or.inl ⟨by rfl, ?yd10⟩) hHeld ?rd10
              case yd10 => (intro wq hSw; (try dsimp only at hSw); go_simp; first | done | with_reducible rfl)
              simp only [Act.put, List.setIfInBounds_toArray, List.set_cons_zero, List.set_cons_succ]
              refine wpAnyH_take (i := 11) (oi := ⟨some 23, _, _, _, _, _⟩) (v := ?vd11) rfl (by kernel_rfl) (by kernel_rfl) (by kernel_rfl) (fun _ _ _ h => h) (Or.inl ⟨by rfl, ?yd11⟩) hHeld ?rd11
              case yd11 => (intro wq hSw; (try dsimp only at hSw); go_simp; first | done | with_reducible rfl)
              simp only [Act.put, List.setIfInBounds_toArray, List.set_cons_zero, List.set_cons_succ]
              refine wpAnyH_take (i := 12) (oi := ⟨some 24, _, _, _, _, _⟩) (v := ?vd12) rfl (by kernel_rfl) (by kernel_rfl) (by kernel_rfl) (fun _ _ _ h => h) (Or.inl ⟨by rfl, ?yd12⟩) hHeld ?rd12
              case yd12 => (intro wq hSw; (try dsimp only at hSw); go_simp; first | done | with_reducible rfl)
              simp only [Act.put, List.setIfInBounds_toArray, List.set_cons_zero, List.set_cons_succ]
              refine wpAnyH_take (i := 13) (oi := ⟨some 25, _, _, _, _, _⟩) (v := ?vd13) rfl (by kernel_rfl) (by kernel_rfl) (by kernel_rfl) (fun _ _ _ h => h) (Or.inl ⟨by rfl, ?yd13⟩) hHeld ?rd13
              case yd13 => (intro wq hSw; (try dsimp only at hSw); go_simp; first | done | with_reducible rfl)
              simp only [Act.put, List.setIfInBounds_toArray, List.set_cons_zero, List.set_cons_succ]
              refine wpAnyH_take (i := 14) (oi := ⟨some 26, _, _, _, _, _⟩) (v := ?vd14) rfl (by kernel_rfl) (by kernel_rfl) (by kernel_rfl) (fun _ _ _ h => h) (Or.inl ⟨by rfl, ?yd14⟩) hHeld ?rd14
              case yd14 => (intro wq hSw; (try dsimp only at hSw); go_simp; first | done | with_reducible rfl)
              simp only [Act.put, List.setIfInBounds_toArray, List.set_cons_zero, List.set_cons_succ]
              refine wpAnyH_take (i := 15) (oi := ⟨some 27, _, _, _, _, _⟩) (v := ?vd15) rfl (by kernel_rfl) (by kernel_rfl) (by kernel_rfl) (fun _ _ _ h => h) (Or.inl ⟨by rfl, ?yd15⟩) hHeld ?rd15
              case yd15 => (intro wq hSw; (try dsimp only at hSw); go_simp; first | done | with_reducible rfl)
              simp only [Act.put, List.setIfInBounds_toArray, List.set_cons_zero, List.set_cons_succ]
              refine wpAnyH_take (i := 16) (oi := ⟨some 28, _, _, _, _, _⟩) (v := ?vd16) rfl (by kernel_rfl) (by kernel_rfl) (by kernel_rfl) (fun _ _ _ h => h) (Or.inl ⟨by rfl, ?yd16⟩) hHeld ?rd16
              case yd16 => (intro wq hSw; (try dsimp only at hSw); go_simp; first | done | with_reducible rfl)
              simp only [Act.put, List.setIfInBounds_toArray, List.set_cons_zero, List.set_cons_succ]
              refine wpAnyH_take (i := 17) (oi := ⟨some 29, _, _, _, _, _⟩) (v := ?vd17) rfl (by kernel_rfl) (by kernel_rfl) (by kernel_rfl) (fun _ _ _ h => h) (Or.inl ⟨by rfl, ?yd17⟩) hHeld ?rd17
              case yd17 => (intro wq hSw; (try dsimp only at hSw); go_simp; first | done | with_reducible rfl)
              simp only [Act.put, List.setIfInBounds_toArray, List.set_cons_zero, List.set_cons_succ]
              refine wpAnyH_take (i := 18) (oi := ⟨some 30, _, _, _, _, _⟩) (v := ?vd18) rfl (by kernel_rfl) (by kernel_rfl) (by kernel_rfl) (fun _ _ _ h => h) (Or.inl ⟨by rfl, ?yd18⟩) hHeld ?rd18
              case yd18 => (intro wq hSw; (try dsimp only at hSw); go_simp; first | done | with_reducible rfl)
              simp only [Act.put, List.setIfInBounds_toArray, List.set_cons_zero, List.set_cons_succ]
              refine wpAnyH_take (i := 19) (oi := ⟨some 31, _, _, _, _, _⟩) (v := ?vd19) rfl (by kernel_rfl) (by kernel_rfl) (by kernel_rfl) (fun _ _ _ h => h) (Or.inl ⟨by rfl, ?yd19⟩) hHeld ?rd19
              case yd19 => (intro wq hSw; (try dsimp only at hSw); go_simp; first | done | with_reducible rfl)
              simp only [Act.put, List.setIfInBounds_toArray, List.set_cons_zero, List.set_cons_succ]
              refine wpAnyH_take (i := 20) (oi := ⟨some 32, _, _, _, _, _⟩) (v := ?vd20) rfl (by kernel_rfl) (by kernel_rfl) (by kernel_rfl) (fun _ _ _ h => h) (Or.inl ⟨by rfl, ?yd20⟩) hHeld ?rd20
              case yd20 => (intro wq hSw; (try dsimp only at hSw); go_simp; first | done | with_reducible rfl)
              simp only [Act.put, List.setIfInBounds_toArray, List.set_cons_zero, List.set_cons_succ]
              refine wpAnyH_take (i := 21) (oi := ⟨some 33, _, _, _, _, _⟩) (v := ?vd21) rfl (by kernel_rfl) (by kernel_rfl) (by kernel_rfl) (fun _ _ _ h => h) (Or.inl ⟨by rfl, ?yd21⟩) hHeld ?rd21
              case yd21 => (intro wq hSw; (try dsimp only at hSw); go_simp; first | done | with_reducible rfl)
              simp only [Act.put, List.setIfInBounds_toArray, List.set_cons_zero, List.set_cons_succ]
              refine wpAnyH_take (i := 22) (oi := ⟨some 34, _, _, _, _, _⟩) (v := ?vd22) rfl (by kernel_rfl) (by kernel_rfl) (by kernel_rfl) (fun _ _ _ h => h) (Or.inl ⟨by rfl, ?yd22⟩) hHeld ?rd22
              case yd22 => (intro wq hSw; (try dsimp only at hSw); go_simp; first | done | with_reducible rfl)
              simp only [Act.put, List.setIfInBounds_toArray, List.set_cons_zero, List.set_cons_succ]
              refine wpAnyH_ready (rs := [23]) (by kernel_rfl) (by simp) ?_
              refine AllReadyH.cons (o := ⟨some 35, _, _, _, _, _⟩) rfl (fun K hK => ?_) AllReadyH.nil
              go_simp
              refine (by_any q p.key _ HQ.out HS2.out).mono ?_
              rintro e we ⟨rfl, hbe⟩
              go_wp2_with fail
              refine hK.out _ _ ?sd23 (fun hHeld => ?_)
              case sd23 => (first | exact KP.out _ (below_al (Below.refl _ _) _).drew | exact KP.out _ (below_then (below_al (Below.refl _ _) _).drew hbc) | exact KP.out _ (below_al hHeld.1 _) | exact KP.out _ (below_then hHeld.1 hbd) | exact KP.out _ (below_then hHeld.1 hbe))
              clear hK K
              try simp only [Act.put, List.setIfInBounds_toArray, List.set_cons_zero, List.set_cons_succ]
              refine wpAnyH_take (i := 24) (oi := ⟨some 36, _, _, _, _, _⟩) (v := ?vd24) rfl (by kernel_rfl) (by kernel_rfl) (by kernel_rfl) (fun _ _ _ h => h) (Or.inl ⟨by rfl, ?yd24⟩) hHeld ?rd24
              case yd24 => (intro wq hSw; (try dsimp only at hSw); go_simp; first | done | with_reducible rfl)
              simp only [Act.put, List.setIfInBounds_toArray, List.set_cons_zero, List.set_cons_succ]
              refine wpAnyH_take (i := 25) (oi := ⟨some 37, _, _, _, _, _⟩) (v := ?vd25) rfl (by kernel_rfl) (by kernel_rfl) (by kernel_rfl) (fun _ _ _ h => h) (Or.inl ⟨by rfl, ?yd25⟩) hHeld ?rd25
              case yd25 => (intro wq hSw; (try dsimp only at hSw); go_simp; first | done | with_reducible rfl)
              simp only [Act.put, List.setIfInBounds_toArray, List.set_cons_zero, List.set_cons_succ]
              refine wpAnyH_take (i := 26) (oi := ⟨some 38, _, _, _, _, _⟩) (v := ?vd26) rfl (by kernel_rfl) (by kernel_rfl) (by kernel_rfl) (fun _ _ _ h => h) (Or.inl ⟨by rfl, ?yd26⟩) hHeld ?rd26
              case yd26 => (intro wq hSw; (try dsimp only at hSw); go_simp; first | done | with_reducible rfl)
              simp only [Act.put, List.setIfInBounds_toArray, List.set_cons_zero, List.set_cons_succ]
              refine wpAnyH_done (by kernel_rfl) ?_ _
              all_goals
                go_split_ands
                go_wp2_with fail
                go_ret
                exact ⟨ret_bool (by rw [HF.out]), hBW.trans (Below.mono (by assumption) hBW.size)⟩
      · have HF := Lib.hid (rightPs_no hlt (fun ho => by have := (ho p HP.out).1; rw [hbk] at this; cases this))
        clear hbk
        refine wp_region_held_drew (S := (fun w' => Below W.heap.size W w' ∧ w'.cell? ⟨wr.heap.size, 0, none⟩ = some (.string p.key) ∧ w'.cell? ⟨wr.heap.size, 1, none⟩ = some (.int .i64 p.v.kind) ∧ w'.cell? ⟨wr.heap.size, 2, none⟩ = some (.int .i64 p.v.n) ∧ w'.cell? ⟨wr.heap.size, 3, none⟩ = some (.string p.v.s))) (by kernel_rfl) (KS.out _ (Below.refl _ _).drew) (fun hHeld => ?_)
        refine wpAnyH_take (i := 0) (oi := ⟨some 12, _, _, _, _, _⟩) (v := ?ve0) rfl (by kernel_rfl) (by kernel_rfl) (by kernel_rfl) (fun _ _ _ h => h) (Or.inl ⟨by rfl, ?ye0⟩) hHeld ?re0
        case ye0 => (intro wq hSw; (try dsimp only at hSw); go_simp; first | done | with_reducible rfl)
        simp only [Act.put, List.setIfInBounds_toArray, List.set_cons_zero, List.set_cons_succ]
        refine wpAnyH_take (i := 1) (oi := ⟨some 13, _, _, _, _, _⟩) (v := ?ve1) rfl (by kernel_rfl) (by kernel_rfl) (by kernel_rfl) (fun _ _ _ h => h) (Or.inl ⟨by rfl, ?ye1⟩) hHeld ?re1
        case ye1 => (intro wq hSw; (try dsimp only at hSw); go_simp; first | done | with_reducible rfl)
        simp only [Act.put, List.setIfInBounds_toArray, List.set_cons_zero, List.set_cons_succ]
        refine wpAnyH_ready (rs := [2]) (by kernel_rfl) (by simp) ?_
        refine AllReadyH.cons (o := ⟨some 14, _, _, _, _, _⟩) rfl (fun K hK => ?_) AllReadyH.nil
        go_simp
        refine hK.out _ _ ?se2 (fun hHeld => ?_)
        case se2 => (first | exact KS.out _ (below_al (Below.refl _ _) _).drew | exact KS.out _ (below_then (below_al (Below.refl _ _) _).drew hbc) | exact KS.out _ (below_al hHeld.1 _) | exact KS.out _ (below_then hHeld.1 hbd) | exact KS.out _ (below_then hHeld.1 hbe))
        clear hK K
        try simp only [Act.put, List.setIfInBounds_toArray, List.set_cons_zero, List.set_cons_succ]
        refine wpAnyH_ready (rs := [3]) (by kernel_rfl) (by simp) ?_
        refine AllReadyH.cons (o := ⟨some 15, _, _, _, _, _⟩) rfl (fun K hK => ?_) AllReadyH.nil
        go_simp
        refine (lright_one W.heap.size 1 p.key 9 (0, 0) _ ?n1e HS.out).mono ?_
        case n1e => exact heap_new W _
        rintro e wc ⟨rfl, hbc⟩
        rw [HB.out]
        go_wp2_with fail
        refine hK.out _ _ ?se3 (fun hHeld => ?_)
        case se3 => (first | exact KS.out _ (below_al (Below.refl _ _) _).drew | exact KS.out _ (below_then (below_al (Below.refl _ _) _).drew hbc) | exact KS.out _ (below_al hHeld.1 _) | exact KS.out _ (below_then hHeld.1 hbd) | exact KS.out _ (below_then hHeld.1 hbe))
        clear hK K
        try simp only [Act.put, List.setIfInBounds_toArray, List.set_cons_zero, List.set_cons_succ]
        refine wpAnyH_take (i := 4) (oi := ⟨some 16, _, _, _, _, _⟩) (v := ?ve4) rfl (by kernel_rfl) (by kernel_rfl) (by kernel_rfl) (fun _ _ _ h => h) (Or.inl ⟨by rfl, ?ye4⟩) hHeld ?re4
        case ye4 => (intro wq hSw; (try dsimp only at hSw); go_simp; first | done | with_reducible rfl)
        simp only [Act.put, List.setIfInBounds_toArray, List.set_cons_zero, List.set_cons_succ]
        refine wpAnyH_take (i := 5) (oi := ⟨some 17, _, _, _, _, _⟩) (v := ?ve5) rfl (by kernel_rfl) (by kernel_rfl) (by kernel_rfl) (fun _ _ _ h => h) (Or.inl ⟨by rfl, ?ye5⟩) hHeld ?re5
        case ye5 => (intro wq hSw; (try dsimp only at hSw); go_simp; first | done | with_reducible rfl)
        simp only [Act.put, List.setIfInBounds_toArray, List.set_cons_zero, List.set_cons_succ]
        refine wpAnyH_take (i := 6) (oi := ⟨some 18, _, _, _, _, _⟩) (v := undef) rfl (by kernel_rfl) (by kernel_rfl) (by kernel_rfl) (fun _ _ _ h => h) (Or.inr ⟨by rfl, rfl⟩) hHeld ?_
        simp only [Act.put, List.setIfInBounds_toArray, List.set_cons_zero, List.set_cons_succ]
        refine wpAnyH_take (i := 7) (oi := ⟨some 19, _, _, _, _, _⟩) (v := undef) rfl (by kernel_rfl) (by kernel_rfl) (by kernel_rfl) (fun _ _ _ h => h) (Or.inr ⟨by rfl, rfl⟩) hHeld ?_
        simp only [Act.put, List.setIfInBounds_toArray, List.set_cons_zero, List.set_cons_succ]
        refine wpAnyH_take (i := 8) (oi := ⟨some 20, _, _, _, _, _⟩) (v := undef) rfl (by kernel_rfl) (by kernel_rfl) (by kernel_rfl) (fun _ _ _ h => h) (Or.inr ⟨by rfl, rfl⟩) hHeld ?_
        simp only [Act.put, List.setIfInBounds_toArray, List.set_cons_zero, List.set_cons_succ]
        refine wpAnyH_take (i := 9) (oi := ⟨some 21, _, _, _, _, _⟩) (v := undef) rfl (by kernel_rfl) (by kernel_rfl) (by kernel_rfl) (fun _ _ _ h => h) (Or.inr ⟨by rfl, rfl⟩) hHeld ?_
        simp only [Act.put, List.setIfInBounds_toArray, List.set_cons_zero, List.set_cons_succ]
        refine wpAnyH_take (i := 10) (oi := ⟨some 22, _, _, _, _, _⟩) (v := undef) rfl (by kernel_rfl) (by kernel_rfl) (by kernel_rfl) (fun _ _ _ h => h) (Or.inr ⟨by rfl, rfl⟩) hHeld ?_
        simp only [Act.put, List.setIfInBounds_toArray, List.set_cons_zero, List.set_cons_succ]
        refine wpAnyH_take (i := 11) (oi := ⟨some 23, _, _, _, _, _⟩) (v := ?ve11) rfl (by kernel_rfl) (by kernel_rfl) (by kernel_rfl) (fun _ _ _ h => h) (Or.inl ⟨by rfl, ?ye11⟩) hHeld ?re11
        case ye11 => (intro wq hSw; (try dsimp only at hSw); go_simp; first | done | with_reducible rfl)
        simp only [Act.put, List.setIfInBounds_toArray, List.set_cons_zero, List.set_cons_succ]
        refine wpAnyH_take (i := 12) (oi := ⟨some 24, _, _, _, _, _⟩) (v := ?ve12) rfl (by kernel_rfl) (by kernel_rfl) (by kernel_rfl) (fun _ _ _ h => h) (Or.inl ⟨by rfl, ?ye12⟩) hHeld ?re12
        case ye12 => (intro wq hSw; (try dsimp only at hSw); go_simp; first | done | with_reducible rfl)
        simp only [Act.put, List.setIfInBounds_toArray, List.set_cons_zero, List.set_cons_succ]
        refine wpAnyH_take (i := 13) (oi := ⟨some 25, _, _, _, _, _⟩) (v := undef) rfl (by kernel_rfl) (by kernel_rfl) (by kernel_rfl) (fun _ _ _ h => h) (Or.inr ⟨by rfl, rfl⟩) hHeld ?_
        simp only [Act.put, List.setIfInBounds_toArray, List.set_cons_zero, List.set_cons_succ]
        refine wpAnyH_take (i := 14) (oi := ⟨some 26, _, _, _, _, _⟩) (v := undef) rfl (by kernel_rfl) (by kernel_rfl) (by kernel_rfl) (fun _ _ _ h => h) (Or.inr ⟨by rfl, rfl⟩) hHeld ?_
        simp only [Act.put, List.setIfInBounds_toArray, List.set_cons_zero, List.set_cons_succ]
        refine wpAnyH_take (i := 15) (oi := ⟨some 27, _, _, _, _, _⟩) (v := undef) rfl (by kernel_rfl) (by kernel_rfl) (by kernel_rfl) (fun _ _ _ h => h) (Or.inr ⟨by rfl, rfl⟩) hHeld ?_
        simp only [Act.put, List.setIfInBounds_toArray, List.set_cons_zero, List.set_cons_succ]
        refine wpAnyH_take (i := 16) (oi := ⟨some 28, _, _, _, _, _⟩) (v := undef) rfl (by kernel_rfl) (by kernel_rfl) (by kernel_rfl) (fun _ _ _ h => h) (Or.inr ⟨by rfl, rfl⟩) hHeld ?_
        simp only [Act.put, List.setIfInBounds_toArray, List.set_cons_zero, List.set_cons_succ]
        refine wpAnyH_take (i := 17) (oi := ⟨some 29, _, _, _, _, _⟩) (v := undef) rfl (by kernel_rfl) (by kernel_rfl) (by kernel_rfl) (fun _ _ _ h => h) (Or.inr ⟨by rfl, rfl⟩) hHeld ?_
        simp only [Act.put, List.setIfInBounds_toArray, List.set_cons_zero, List.set_cons_succ]
        refine wpAnyH_take (i := 18) (oi := ⟨some 30, _, _, _, _, _⟩) (v := undef) rfl (by kernel_rfl) (by kernel_rfl) (by kernel_rfl) (fun _ _ _ h => h) (Or.inr ⟨by rfl, rfl⟩) hHeld ?_
        simp only [Act.put, List.setIfInBounds_toArray, List.set_cons_zero, List.set_cons_succ]
        refine wpAnyH_take (i := 19) (oi := ⟨some 31, _, _, _, _, _⟩) (v := undef) rfl (by kernel_rfl) (by kernel_rfl) (by kernel_rfl) (fun _ _ _ h => h) (Or.inr ⟨by rfl, rfl⟩) hHeld ?_
        simp only [Act.put, List.setIfInBounds_toArray, List.set_cons_zero, List.set_cons_succ]
        refine wpAnyH_take (i := 20) (oi := ⟨some 32, _, _, _, _, _⟩) (v := undef) rfl (by kernel_rfl) (by kernel_rfl) (by kernel_rfl) (fun _ _ _ h => h) (Or.inr ⟨by rfl, rfl⟩) hHeld ?_
        simp only [Act.put, List.setIfInBounds_toArray, List.set_cons_zero, List.set_cons_succ]
        refine wpAnyH_take (i := 21) (oi := ⟨some 33, _, _, _, _, _⟩) (v := undef) rfl (by kernel_rfl) (by kernel_rfl) (by kernel_rfl) (fun _ _ _ h => h) (Or.inr ⟨by rfl, rfl⟩) hHeld ?_
        simp only [Act.put, List.setIfInBounds_toArray, List.set_cons_zero, List.set_cons_succ]
        refine wpAnyH_take (i := 22) (oi := ⟨some 34, _, _, _, _, _⟩) (v := undef) rfl (by kernel_rfl) (by kernel_rfl) (by kernel_rfl) (fun _ _ _ h => h) (Or.inr ⟨by rfl, rfl⟩) hHeld ?_
        simp only [Act.put, List.setIfInBounds_toArray, List.set_cons_zero, List.set_cons_succ]
        refine wpAnyH_take (i := 23) (oi := ⟨some 35, _, _, _, _, _⟩) (v := undef) rfl (by kernel_rfl) (by kernel_rfl) (by kernel_rfl) (fun _ _ _ h => h) (Or.inr ⟨by rfl, rfl⟩) hHeld ?_
        simp only [Act.put, List.setIfInBounds_toArray, List.set_cons_zero, List.set_cons_succ]
        refine wpAnyH_take (i := 24) (oi := ⟨some 36, _, _, _, _, _⟩) (v := undef) rfl (by kernel_rfl) (by kernel_rfl) (by kernel_rfl) (fun _ _ _ h => h) (Or.inr ⟨by rfl, rfl⟩) hHeld ?_
        simp only [Act.put, List.setIfInBounds_toArray, List.set_cons_zero, List.set_cons_succ]
        refine wpAnyH_take (i := 25) (oi := ⟨some 37, _, _, _, _, _⟩) (v := undef) rfl (by kernel_rfl) (by kernel_rfl) (by kernel_rfl) (fun _ _ _ h => h) (Or.inr ⟨by rfl, rfl⟩) hHeld ?_
        simp only [Act.put, List.setIfInBounds_toArray, List.set_cons_zero, List.set_cons_succ]
        refine wpAnyH_take (i := 26) (oi := ⟨some 38, _, _, _, _, _⟩) (v := ?ve26) rfl (by kernel_rfl) (by kernel_rfl) (by kernel_rfl) (fun _ _ _ h => h) (Or.inl ⟨by rfl, ?ye26⟩) hHeld ?re26
        case ye26 => (intro wq hSw; (try dsimp only at hSw); go_simp; first | done | with_reducible rfl)
        simp only [Act.put, List.setIfInBounds_toArray, List.set_cons_zero, List.set_cons_succ]
        refine wpAnyH_done (by kernel_rfl) ?_ _
        all_goals
          go_split_ands
          go_wp2_with fail
          go_ret
          exact ⟨ret_bool (by rw [HF.out]), hBW.trans (Below.mono (by assumption) hBW.size)⟩
    · obtain rfl : j = ps.length := by omega
      have HE := Lib.hid (rightPs_end HN.out)
      clear h
      go_wp2_with fail
      go_ret
      exact ⟨ret_bool (by rw [HE.out]; rw [Bool.eq_iff_iff]; simp; omega), hbel⟩
end Go.Proofs.YtkbmipmegljidaaGreat
