/- value.Take and what it takes. Conditions: each contract's own premises. value.Take, cobwebref02.Take. Conditions: each contract's own premises. cobwebref02.Take. Conditions: each contract's own premises. Properties out of bytes: the plain reading; properties that a call lays for itself. Conditions: each lemma's own premises. -/
import Derived.Test.YtkbmipmegljidaaGreatWsS
namespace Go.Proofs.YtkbmipmegljidaaGreat
open Go.RowKit Go.Maps

/-- a text behind its first byte: what it is, how many bytes -/
def tkT : List UInt8 → List UInt8 → Nat → Option (List UInt8 × Nat)
  | [], _, _ => none
  | [_], _, _ => none
  | b :: c :: r, acc, n =>
    if b = 0 then (if c = 0 then some (acc, n + 2) else if c = 255 then (if acc.length = 200 then none else tkT r (acc ++ [0]) (n + 2)) else none)
    else if acc.length = 200 then none else tkT (c :: r) (acc ++ [b]) (n + 1)
theorem tkT_nil (acc : List UInt8) (n : Nat) : tkT [] acc n = none := by unfold tkT; rfl
theorem tkT_one (b : UInt8) (acc : List UInt8) (n : Nat) : tkT [b] acc n = none := by unfold tkT; rfl
theorem tkT_end (r acc : List UInt8) (n : Nat) : tkT (0 :: 0 :: r) acc n = some (acc, n + 2) := by unfold tkT; rfl
theorem tkT_zero {r acc : List UInt8} {n : Nat} (h : acc.length ≠ 200) : tkT (0 :: 255 :: r) acc n = tkT r (acc ++ [0]) (n + 2) := by
  rw [tkT]; simp [h]
theorem tkT_zfull {r acc : List UInt8} {n : Nat} (h : acc.length = 200) : tkT (0 :: 255 :: r) acc n = none := by
  rw [tkT]; simp [h]
theorem tkT_form {c : UInt8} {r acc : List UInt8} {n : Nat} (h : c ≠ 0) (h2 : c ≠ 255) : tkT (0 :: c :: r) acc n = none := by
  rw [tkT]; simp [h, h2]
theorem tkT_full {b : UInt8} {r acc : List UInt8} {n : Nat} (hb : b ≠ 0) (h : acc.length = 200) : tkT (b :: r) acc n = none := by
  match r with
  | [] => rw [tkT]
  | c :: r => rw [tkT]; simp [hb, h]
theorem tkT_byte {b : UInt8} {r acc : List UInt8} {n : Nat} (hb : b ≠ 0) (h : acc.length ≠ 200) : tkT (b :: r) acc n = tkT r (acc ++ [b]) (n + 1) := by
  match r with
  | [] => rw [tkT, tkT]
  | c :: r => rw [tkT]; simp [hb, h]
/-- a text's bytes are taken as the text -/
theorem tkT_esc : ∀ (s r acc : List UInt8) (n : Nat), acc.length + s.length ≤ 200 → tkT (escL s ++ 0 :: 0 :: r) acc n = some (acc ++ s, n + (escL s).length + 2)
  | [], r, acc, n, _ => by simp [escL, tkT_end]
  | b :: s, r, acc, n, h => by
    simp at h
    by_cases hb : b = 0
    · subst hb
      have : escL (0 :: s) = 0 :: 255 :: escL s := by simp [escL]
      rw [this, List.cons_append, List.cons_append, tkT_zero (by omega), tkT_esc s r _ _ (by simp; omega)]
      simp; omega
    · have : escL (b :: s) = b :: escL s := by simp [escL, hb]
      rw [this, List.cons_append, tkT_byte hb (by omega), tkT_esc s r _ _ (by simp; omega)]
      simp; omega
/-- what is taken is no longer than the bytes -/
theorem tkT_len : ∀ (k : Nat) (l acc : List UInt8) (n : Nat) (s : List UInt8) (m : Nat), l.length ≤ k → acc.length ≤ 200 → tkT l acc n = some (s, m) → s.length ≤ 200 ∧ n < m ∧ m ≤ n + l.length
  | _, [], acc, n, s, m, _, _, h => by rw [tkT_nil] at h; cases h
  | _, [b], acc, n, s, m, _, _, h => by rw [tkT_one] at h; cases h
  | 0, b :: c :: r, acc, n, s, m, hk, _, h => by simp at hk
  | k + 1, b :: c :: r, acc, n, s, m, hk, ha, h => by
    simp at hk
    by_cases hb : b = 0
    · subst hb
      by_cases hc : c = 0
      · subst hc
        rw [tkT_end] at h
        simp at h
        obtain ⟨rfl, rfl⟩ := h
        exact ⟨ha, by omega, by simp⟩
      · by_cases hc2 : c = 255
        · subst hc2
          by_cases hf : acc.length = 200
          · rw [tkT_zfull hf] at h; cases h
          · rw [tkT_zero hf] at h
            have := tkT_len k r _ _ s m (by omega) (by simp; omega) h
            simp; omega
        · rw [tkT_form hc hc2] at h; cases h
    · by_cases hf : acc.length = 200
      · rw [tkT_full hb hf] at h; cases h
      · rw [tkT_byte hb hf] at h
        have := tkT_len k (c :: r) _ _ s m (by simp; omega) (by simp; omega) h
        simp at this ⊢; omega
def Vl.agg (v : Vl) : Value := .agg #[.int .i64 v.kind, .int .i64 v.n, .string v.s]
/-- the value with which bytes begin -/
def tkV : List UInt8 → Option (Vl × Nat)
  | [] => none
  | b :: r => if b = 2 then (tkT r [] 1).map (fun x => (⟨2, 0, ⟨x.1.toArray⟩⟩, x.2)) else if b = 1 then (if r.length < 8 then none else some (⟨1, (numL (r.take 8) : Int) - 9223372036854775808, ⟨#[]⟩⟩, 9)) else none
/-- what taking leaves: the value and how many bytes; or some error -/
def TkPost (w : World) (o : Option (Vl × Nat)) (e : Ending) (w' : World) : Prop :=
  Below w.heap.size w w' ∧ ∃ v n k, e = .returned (.tuple #[.agg #[.int .i64 (v : Vl).kind, .int .i64 v.n, .string v.s], .int .i64 ((n : Nat) : Int), .int .i64 k]) ∧ ((k = 0 ∧ o = some (v, n)) ∨ (k ≠ 0 ∧ o = none))
theorem BsAt.drop {w : World} {b off : Nat} {l : List UInt8} (h : BsAt w b off l) (k : Nat) : BsAt w b (off + k) (l.drop k) :=
  ⟨fun i x hx => by rw [List.getElem?_drop] at hx; have := h.cells _ x hx; rw [← Nat.add_assoc] at this; exact this, h.lt⟩
theorem BsAt.below {w w' : World} {b off : Nat} {l : List UInt8} (h : BsAt w b off l) (hb : Below w.heap.size w w') : BsAt w' b off l := h.of_block (hb.block b h.lt)

/-- 'string(b)' of bytes that the call owns -/
theorem wpList_toStrO (w : World) {ops : Array Oper} {rest : List Oper} {o : Oper} {a : Act} {Q : Exit → Act → World → Prop} (hg : o.guard = none) (x : Operand) (hop : o.op = Op.convert 102 9 x) (B : Nat) (v : Value) (l : List UInt8) (hx : a.eval x = v) (hO : BsO w B v l)
    (hK : wpList Tryz.prog ops Q rest (a.put o.dst (.string ⟨l.toArray⟩)) w) :
    wpList Tryz.prog ops Q (o :: rest) a w := by
  rcases hO.2 with ⟨rfl, hl⟩ | ⟨g, cap, cur, rfl, h2, h3, h4, h5, h6, h7⟩
  · have : l = [] := List.eq_nil_of_length_eq_zero hl
    subst this
    refine wpList_plain hg fun K' hK' => ?_
    have hrun : (convert 102 9 (.slice none 0 0)).run Tryz.prog w = .ok (.string ⟨#[]⟩) w := by kernel_rfl
    unfold Oper.wp
    simp [execOp, hop, hx, hrun, Result.andThen]
    exact hK' _ _ hK
  · refine wpList_toStr w hg x hop ⟨g, 0, none⟩ l.length cap l hx rfl (fun j hj => ?_) hK
    exact hO.cells (g := g) rfl j (bv l[j]) (by simp [hj])
theorem BsO.nil (w : World) (B : Nat) : BsO w B (.slice none 0 0) [] := ⟨rfl, .inl ⟨rfl, rfl⟩⟩
theorem BsO.shape {w : World} {B : Nat} {v : Value} {l : List UInt8} (h : BsO w B v l) : ∃ a cap, v = .slice a l.length cap := by
  rcases h.2 with ⟨rfl, hl⟩ | ⟨g, cap, cur, rfl, _⟩
  · exact ⟨none, 0, by rw [hl]⟩
  · exact ⟨_, _, rfl⟩
theorem u8_ne {a b : UInt8} (h : a ≠ b) : ((a.toNat : Int) == (b.toNat : Int)) = false := by
  have : a.toNat ≠ b.toNat := fun e => h (UInt8.toNat_inj.1 e)
  simp only [beq_eq_false_iff_ne]
  omega
/-- three cells of a block of its own, laid anew -/
theorem set3 {w wr : World} {a0 a1 a2 : Value} {t : TypeId} (e : wr.heap[w.heap.size]? = some (.cells #[a0, a1, a2] t)) (hb : Below w.heap.size w wr) (x y z : Value) (w3 : World)
    (h : w3 = ((wr.setCell ⟨w.heap.size, 0, none⟩ x).setCell ⟨w.heap.size, 1, none⟩ y).setCell ⟨w.heap.size, 2, none⟩ z) :
    Below w.heap.size w w3 ∧ w3.cell? ⟨w.heap.size, 0, none⟩ = some x ∧ w3.cell? ⟨w.heap.size, 1, none⟩ = some y ∧ w3.cell? ⟨w.heap.size, 2, none⟩ = some z := by
  have h1 := heap_setCell_same wr w.heap.size 0 _ t x e
  have h2 := heap_setCell_same _ w.heap.size 1 _ t y h1
  have h3 := heap_setCell_same _ w.heap.size 2 _ t z h2
  rw [← h] at h3
  refine ⟨?_, ?_, ?_, ?_⟩
  · rw [h]
    exact ((hb.setCell (p := ⟨w.heap.size, 0, none⟩) (Nat.le_refl _) x).setCell (p := ⟨w.heap.size, 1, none⟩) (Nat.le_refl _) y).setCell (p := ⟨w.heap.size, 2, none⟩) (Nat.le_refl _) z
  · rw [cell_of_blk h3]; simp
  · rw [cell_of_blk h3]; simp
  · rw [cell_of_blk h3]; simp
/-- a value, a number and an error are handed back: their laying -/
theorem tk_ret {w wr : World} {t : TypeId} {a0 a1 a2 : Value} (e : wr.heap[w.heap.size]? = some (.cells #[a0, a1, a2] t)) (hb : Below w.heap.size w wr) (F : Func) (a : Act) (o : Option (Vl × Nat)) (v : Vl) (n : Nat) (k : Int)
    (hF : F.results = #[.cell 2 60, .tmp 3, .tmp 4]) (h2 : a.tmps[2]?.getD undef = .pointer (some ⟨w.heap.size, 0, none⟩)) (h3 : a.tmps[3]?.getD undef = .int .i64 n) (h4 : a.tmps[4]?.getD undef = .int .i64 k) (hd : a.defers = [])
    (h : (k = 0 ∧ o = some (v, n)) ∨ (k ≠ 0 ∧ o = none)) :
    bodyPost Tryz.prog F (TkPost w o) .ret a (((wr.setCell ⟨w.heap.size, 0, none⟩ (.int .i64 v.kind)).setCell ⟨w.heap.size, 1, none⟩ (.int .i64 v.n)).setCell ⟨w.heap.size, 2, none⟩ (.string v.s)) := by
  obtain ⟨w3, hw3⟩ : ∃ w3, w3 = ((wr.setCell ⟨w.heap.size, 0, none⟩ (.int .i64 v.kind)).setCell ⟨w.heap.size, 1, none⟩ (.int .i64 v.n)).setCell ⟨w.heap.size, 2, none⟩ (.string v.s) := ⟨_, rfl⟩
  obtain ⟨b3, d0, d1, d2⟩ := set3 e hb _ _ _ w3 hw3
  rw [← hw3]
  clear hw3
  refine bodyPost_ret (v := .tuple #[.agg #[.int .i64 v.kind, .int .i64 v.n, .string v.s], .int .i64 n, .int .i64 k]) ?_ hd ⟨b3, v, n, k, rfl, h⟩
  simp [results, hF, go_sem, h2, h3, h4, d0, d1, d2]
theorem tk_retA (w : World) (F : Func) (a : Act) (o : Option (Vl × Nat)) (v : Vl) (n : Nat) (k : Int)
    (hF : F.results = #[.cell 2 60, .tmp 3, .tmp 4]) (h2 : a.tmps[2]?.getD undef = .pointer (some ⟨w.heap.size, 0, none⟩)) (h3 : a.tmps[3]?.getD undef = .int .i64 n) (h4 : a.tmps[4]?.getD undef = .int .i64 k) (hd : a.defers = [])
    (h : (k = 0 ∧ o = some (v, n)) ∨ (k ≠ 0 ∧ o = none)) :
    bodyPost Tryz.prog F (TkPost w o) .ret a (w.alloc (.cells #[.int .i64 v.kind, .int .i64 v.n, .string v.s] 60)) := by
  obtain ⟨w3, hw3⟩ : ∃ w3, w3 = w.alloc (.cells #[.int .i64 v.kind, .int .i64 v.n, .string v.s] 60) := ⟨_, rfl⟩
  have e := heap_new w (.cells #[.int .i64 v.kind, .int .i64 v.n, .string v.s] 60)
  have b3 := below_box w (.cells #[.int .i64 v.kind, .int .i64 v.n, .string v.s] 60)
  rw [← hw3] at e b3 ⊢
  have d0 := cell_of_blk e 0
  have d1 := cell_of_blk e 1
  have d2 := cell_of_blk e 2
  simp at d0 d1 d2
  clear hw3
  refine bodyPost_ret (v := .tuple #[.agg #[.int .i64 v.kind, .int .i64 v.n, .string v.s], .int .i64 n, .int .i64 k]) ?_ hd ⟨b3, v, n, k, rfl, h⟩
  simp [results, hF, go_sem, h2, h3, h4, d0, d1, d2]
set_option maxRecDepth 100000 in
set_option maxHeartbeats 2000000 in
theorem vtext_any (b off cap : Nat) (l : List UInt8) (w : World) (h : BsAt w b off (2 :: l)) (hl : l.length ≤ 1000000) :
    Calls Tryz.prog 175 #[.slice (some ⟨b, off, none⟩) (2 :: l).length cap] w (TkPost w ((tkT l [] 1).map (fun x => (⟨2, 0, ⟨x.1.toArray⟩⟩, x.2)))) := by
  have hlw := h.lt
  obtain ⟨R, hR⟩ : ∃ R, R = tkT l [] 1 := ⟨_, rfl⟩
  rw [← hR]
  have HR := Lib.hid hR
  clear hR
  go_enter Tryz.func175, Tryz.ntmps175
  go_wp2_with fail
  have HH := Lib.hid h
  obtain ⟨W, hW⟩ : ∃ W, W = w.alloc (.cells #[.int .i64 0, .int .i64 0, .string ⟨#[]⟩] 60) := ⟨_, rfl⟩
  have hzW : W.heap.size = w.heap.size + 1 := by rw [hW]; simp
  have hBW : Below w.heap.size w W := by rw [hW]; exact below_box w _
  have eW : W.heap[w.heap.size]? = some (.cells #[.int .i64 0, .int .i64 0, .string ⟨#[]⟩] 60) := by rw [hW]; exact heap_new w _
  have HEW := Lib.hid eW
  have HW := Lib.hid hW
  have HZ := Lib.hid hzW
  clear eW hW hzW h
  go_loopw [5, 6] (fun s i wr => ∃ (k : Nat) (acc : List UInt8), k ≤ l.length ∧ i = .int .i64 ((k + 1 : Nat) : Int) ∧ BsO wr W.heap.size s acc ∧ acc.length ≤ 200 ∧ Below W.heap.size W wr ∧ Hid (R = tkT (l.drop k) acc (k + 1))) (fun _ i _ => l.length + 1 - (intOf i).toNat)
  case atStart => exact ⟨0, [], by omega, rfl, BsO.nil _ _, by simp, by rw [HW.out]; exact Below.refl _ _, HR⟩
  case round =>
    obtain ⟨k, acc, hk, rfl, hO, hac, hbel, HT⟩ := hrel
    have hz := hbel.size
    have hat := HH.out.below (hBW.trans (hbel.mono hBW.size))
    have eB := (hbel.block w.heap.size (by rw [HZ.out]; omega)).trans HEW.out
    have f0 := frozen_of_blk eB 0
    have f1 := frozen_of_blk eB 1
    have f2 := frozen_of_blk eB 2
    have c0 := cell_of_blk eB 0
    have c1 := cell_of_blk eB 1
    have c2 := cell_of_blk eB 2
    simp at c0 c1 c2
    have hlr : w.heap.size < wr.heap.size := (Array.getElem?_eq_some_iff.1 eB).1
    have HAT := Lib.hid hat
    have hlb : b < wr.heap.size := hat.lt
    have HB := Lib.hid eB
    clear eB hat
    by_cases hlt : k < l.length
    · obtain ⟨x, hx⟩ : ∃ x, l[k]? = some x := ⟨_, List.getElem?_eq_getElem hlt⟩
      have q1 := HAT.out.cells (k + 1) x (by simpa using hx)
      unfold bv at q1
      have hdk : l.drop k = x :: l.drop (k + 1) := by
        rw [List.drop_eq_getElem_cons hlt]
        rw [List.getElem?_eq_getElem hlt] at hx
        injection hx with hx
        rw [hx]
      have HD := Lib.hid hdk
      clear hdk hx
      by_cases h0 : x = 0
      · subst h0
        simp at q1
        by_cases hlt2 : k + 1 < l.length
        · obtain ⟨y, hy⟩ : ∃ y, l[k + 1]? = some y := ⟨_, List.getElem?_eq_getElem hlt2⟩
          have q2 := HAT.out.cells (k + 1 + 1) y (by simpa using hy)
          unfold bv at q2
          have HD2 : Hid (l.drop k = 0 :: y :: l.drop (k + 2)) := Lib.hid (by
            rw [HD.out, List.drop_eq_getElem_cons hlt2]
            rw [List.getElem?_eq_getElem hlt2] at hy
            injection hy with hy
            rw [hy])
          clear HD hy
          by_cases h1 : y = 0
          · subst h1
            simp at q2
            have HN : Hid (R = some (acc, k + 1 + 2)) := Lib.hid (by rw [HT.out, HD2.out, tkT_end])
            have HO := Lib.hid hO
            clear hO
            go_wp2_with (refine wpList_toStrO _ rfl (.tmp 31) rfl W.heap.size _ acc rfl HO.out ?_)
            exact tk_ret HB.out (hBW.trans (hbel.mono hBW.size)) _ _ _ ⟨2, 0, ⟨acc.toArray⟩⟩ (k + 1 + 2) 0 Tryz.results175 rfl (by go_num) rfl rfl (.inl ⟨rfl, by rw [HN.out]; rfl⟩)
          · have n1 : ((y.toNat : Int) == 0) = false := u8_ne (b := 0) h1
            by_cases h2 : y = 255
            · subst h2
              simp at q2
              by_cases hf : acc.length = 200
              · have HN : Hid (R = none) := Lib.hid (by rw [HT.out, HD2.out, tkT_zfull hf])
                obtain ⟨va, vc, rfl⟩ := hO.shape
                clear hO
                go_wp2_with fail
                exact tk_ret HB.out (hBW.trans (hbel.mono hBW.size)) _ _ _ ⟨0, 0, ⟨#[]⟩⟩ 0 32 Tryz.results175 rfl rfl rfl rfl (.inr ⟨by decide, by rw [HN.out]; rfl⟩)
              · have HN : Hid (R = tkT (l.drop (k + 2)) (acc ++ [0]) (k + 2 + 1)) := Lib.hid (by rw [HT.out, HD2.out, tkT_zero hf])
                obtain ⟨va, vc, hv⟩ := hO.shape
                have HV := Lib.hid hv
                subst hv
                have HO := Lib.hid hO
                clear hO
                go_wp2_with (at_builtin; refine wpList_appB _ rfl (.tmp 46) (.tmp 47) rfl W.heap.size _ _ rfl (HO.out.alloc _) ⟨wr.heap.size, 0, none⟩ 1 1 [0] rfl rfl (new_one ?hxa) (by simp; omega) (by simp; omega) ?_; (case hxa => rfl); intro v1 w2 o1 b1 g1 k1)
                refine ⟨⟨k + 2, acc ++ [0], by omega, by go_num, o1, by simp; omega, (below_al hbel _).trans b1, HN⟩, by simp [intOf]; omega⟩
            · have n2 : ((y.toNat : Int) == 255) = false := u8_ne (b := 255) h2
              have HN : Hid (R = none) := Lib.hid (by rw [HT.out, HD2.out, tkT_form h1 h2])
              clear h1 h2
              go_wp2_with fail
              exact tk_ret HB.out (hBW.trans (hbel.mono hBW.size)) _ _ _ ⟨0, 0, ⟨#[]⟩⟩ 0 10 Tryz.results175 rfl rfl rfl rfl (.inr ⟨by decide, by rw [HN.out]; rfl⟩)
        · have hk1 : k + 1 = l.length := by omega
          have HN : Hid (R = none) := Lib.hid (by rw [HT.out, HD.out, List.drop_eq_nil_of_le (by omega), tkT_one])
          have ht : ((k : Int) + 1 + 1 == (l.length : Int) + 1) = true := by simp; omega
          have ht2 : ((k : Int) + 1 == (l.length : Int)) = true := by simp; omega
          clear hlt2 hk1
          go_wp2_with fail
          exact tk_ret HB.out (hBW.trans (hbel.mono hBW.size)) _ _ _ ⟨0, 0, ⟨#[]⟩⟩ 0 20 Tryz.results175 rfl rfl rfl rfl (.inr ⟨by decide, by rw [HN.out]; rfl⟩)
      · have n1 : ((x.toNat : Int) == 0) = false := u8_ne (b := 0) h0
        by_cases hf : acc.length = 200
        · have HN : Hid (R = none) := Lib.hid (by rw [HT.out, HD.out, tkT_full h0 hf])
          clear h0
          obtain ⟨va, vc, rfl⟩ := hO.shape
          clear hO
          go_wp2_with fail
          exact tk_ret HB.out (hBW.trans (hbel.mono hBW.size)) _ _ _ ⟨0, 0, ⟨#[]⟩⟩ 0 32 Tryz.results175 rfl rfl rfl rfl (.inr ⟨by decide, by rw [HN.out]; rfl⟩)
        · have HN : Hid (R = tkT (l.drop (k + 1)) (acc ++ [x]) (k + 1 + 1)) := Lib.hid (by rw [HT.out, HD.out, tkT_byte h0 hf])
          clear h0
          obtain ⟨va, vc, hv⟩ := hO.shape
          subst hv
          have HO := Lib.hid hO
          clear hO
          go_wp2_with (at_builtin; refine wpList_appB _ rfl (.tmp 53) (.tmp 58) rfl W.heap.size _ _ rfl (HO.out.alloc _) ⟨wr.heap.size, 0, none⟩ 1 1 [x] rfl rfl (new_one ?hxa) (by simp; omega) (by simp; omega) ?_; (case hxa => rfl); intro v1 w2 o1 b1 g1 k1)
          refine ⟨⟨k + 1, acc ++ [x], by omega, by go_num, o1, by simp; omega, (below_al hbel _).trans b1, HN⟩, by simp [intOf]; omega⟩
    · obtain rfl : k = l.length := by omega
      have HN : Hid (R = none) := Lib.hid (by rw [HT.out, List.drop_length, tkT_nil])
      go_wp2_with fail
      exact tk_ret HB.out (hBW.trans (hbel.mono hBW.size)) _ _ _ ⟨0, 0, ⟨#[]⟩⟩ 0 20 Tryz.results175 rfl rfl rfl rfl (.inr ⟨by decide, by rw [HN.out]; rfl⟩)
end Go.Proofs.YtkbmipmegljidaaGreat
namespace Go.Proofs.YtkbmipmegljidaaGreat
open Go.RowKit Go.Maps

theorem u64_or_byte (a b : Nat) (ha : a < 72057594037927936) (hb : b < 256) : bits .or .u64 ((a : Int) * 256) (b : Int) = (a : Int) * 256 + b := by
  have e : ((a : Int) * 256) = ((a * 256 : Nat) : Int) := by simp
  have e2 : a * 256 ||| b = a * 256 + b := by
    have := Nat.two_pow_add_eq_or_of_lt (i := 8) (b := b) (by omega) a
    rw [show 2 ^ 8 * a = a * 256 by omega] at this
    exact this.symm
  rw [e]
  show IntKind.u64.wrap ((BitVec.ofInt 64 ((a * 256 : Nat) : Int) ||| BitVec.ofInt 64 (b : Int)).toNat : Int) = _
  rw [BitVec.toNat_or, ofInt_u64 (a * 256) (by omega), ofInt_u64 b (by omega), e2]
  simp [IntKind.wrap, IntKind.bits, IntKind.signed]
  omega
theorem u64_back (u : Nat) (h : u < 18446744073709551616) : IntKind.i64.wrap (bits .xor .u64 (u : Int) 9223372036854775808) = (u : Int) - 9223372036854775808 := by
  have := u64_xor_nat u 9223372036854775808 (by omega) (by decide)
  rw [show ((9223372036854775808 : Nat) : Int) = 9223372036854775808 from rfl] at this
  rw [this]
  by_cases hn : u < 9223372036854775808
  · rw [xor_top hn]
    simp [IntKind.wrap, IntKind.bits, IntKind.signed]; omega
  · obtain ⟨r, rfl⟩ : ∃ r, u = r + 9223372036854775808 := ⟨u - 9223372036854775808, by omega⟩
    rw [← xor_top (show r < 9223372036854775808 by omega), Nat.xor_assoc, Nat.xor_self, Nat.xor_zero]
    simp [IntKind.wrap, IntKind.bits, IntKind.signed]; rw [xor_top (by omega)]; omega
theorem tkV_kind {b : UInt8} {r : List UInt8} (h : b ≠ 2) (h1 : b ≠ 1) : tkV (b :: r) = none := by simp [tkV, h, h1]
theorem tkV_short {r : List UInt8} (h : r.length < 8) : tkV (1 :: r) = none := by simp [tkV, h]
theorem tkV_num {r : List UInt8} (h : ¬ r.length < 8) : tkV (1 :: r) = some (⟨1, (numL (r.take 8) : Int) - 9223372036854775808, ⟨#[]⟩⟩, 9) := by simp [tkV, h]
theorem tkV_text (r : List UInt8) : tkV (2 :: r) = (tkT r [] 1).map (fun x => (⟨2, 0, ⟨x.1.toArray⟩⟩, x.2)) := by simp [tkV]
theorem numL_small {l : List UInt8} {k : Nat} (hk : k ≤ l.length) (h7 : k ≤ 7) : numL (l.take k) < 72057594037927936 :=
  Nat.lt_of_lt_of_le (numL_take l k hk) (Nat.le_trans (Nat.pow_le_pow_right (by omega) h7) (by decide))

set_option maxRecDepth 100000 in
set_option maxHeartbeats 2000000 in
theorem vtake_any (b off cap : Nat) (l : List UInt8) (w : World) (h : BsAt w b off l) (hl : l.length ≤ 1000000) (hcap : l.length ≤ cap) :
    Calls Tryz.prog 160 #[.slice (some ⟨b, off, none⟩) l.length cap] w (TkPost w (tkV l)) := by
  have hlw := h.lt
  obtain ⟨R, hR⟩ : ∃ R, R = tkV l := ⟨_, rfl⟩
  rw [← hR]
  have HR := Lib.hid hR
  clear hR
  have HH := Lib.hid h
  have hBW := below_box w (.cells #[.int .i64 0, .int .i64 0, .string ⟨#[]⟩] 60)
  have HEW := Lib.hid (heap_new w (.cells #[.int .i64 0, .int .i64 0, .string ⟨#[]⟩] 60))
  match l, h with
  | [], h =>
    clear h
    go_enter Tryz.func160, Tryz.ntmps160
    go_wp2_with fail
    exact tk_retA w _ _ _ ⟨0, 0, ⟨#[]⟩⟩ 0 20 Tryz.results160 rfl rfl rfl rfl (.inr ⟨by decide, HR.out⟩)
  | x :: r, h =>
    have q0 := h.cells 0 x rfl
    unfold bv at q0
    rw [Nat.add_zero] at q0
    simp at hl
    by_cases h2 : x = 2
    · subst h2
      clear h
      have hlr : r.length ≤ 1000000 := by omega
      have VT := Lib.hid (vtext_any b off cap r _ (HH.out.below hBW) hlr)
      go_enter Tryz.func160, Tryz.ntmps160
      go_wp2_with fail
      refine (VT.out).mono ?_
      rintro e w1 ⟨hb1, v, n, k, rfl, hk⟩
      have eB := (hb1.block w.heap.size (by simp)).trans HEW.out
      have f0 := frozen_of_blk eB 0
      have f1 := frozen_of_blk eB 1
      have f2 := frozen_of_blk eB 2
      have c0 := cell_of_blk eB 0
      have c1 := cell_of_blk eB 1
      have c2 := cell_of_blk eB 2
      simp at c0 c1 c2
      have hlr : w.heap.size < w1.heap.size := (Array.getElem?_eq_some_iff.1 eB).1
      have HB := Lib.hid eB
      have HK := Lib.hid hk
      clear eB hk
      go_wp2_with fail
      exact tk_ret HB.out (below_then hBW hb1) _ _ _ v n k Tryz.results160 rfl rfl rfl rfl (by rw [HR.out, tkV_text]; exact HK.out)
    · have n2 : ((x.toNat : Int) == 2) = false := u8_ne (b := 2) h2
      by_cases h1 : x = 1
      · subst h1
        simp at q0
        by_cases hs : r.length < 8
        · have HN : Hid (R = none) := Lib.hid (by rw [HR.out, tkV_short hs])
          clear h2 h
          go_enter Tryz.func160, Tryz.ntmps160
          go_wp2_with fail
          exact tk_retA w _ _ _ ⟨0, 0, ⟨#[]⟩⟩ 0 20 Tryz.results160 rfl rfl rfl rfl (.inr ⟨by decide, HN.out⟩)
        · have HN : Hid (R = some (⟨1, (numL (r.take 8) : Int) - 9223372036854775808, ⟨#[]⟩⟩, 9)) := Lib.hid (by rw [HR.out, tkV_num hs])
          have h8 : 8 ≤ r.length := by omega
          simp at hcap
          clear h2 h hs
          go_enter Tryz.func160, Tryz.ntmps160
          go_wp2_with fail
          go_loop [5, 37] (fun n i => ∃ k : Nat, k ≤ 8 ∧ i = .int .i64 k ∧ n = .int .u64 (numL (r.take k) : Nat)) (fun _ i => 8 - (intOf i).toNat)
          case atStart => exact ⟨0, by omega, rfl, rfl⟩
          case round =>
            obtain ⟨k, hk, rfl, rfl⟩ := hrel
            by_cases hlt : k < 8
            · have hlk : k < r.length := by omega
              have c1 := HH.out.cells (k + 1) r[k] (by simp [hlk])
              unfold bv at c1
              rw [show off + (k + 1) = off + 1 + k by omega] at c1
              have hs := Lib.hid (numL_snoc hlk)
              have hn2 := numL_small (l := r) (k := k) (by omega) (by omega)
              obtain ⟨y, hy⟩ : ∃ y, (r[k]).toNat = y := ⟨_, rfl⟩
              have hy2 : y < 256 := by rw [← hy]; exact (r[k]).toNat_lt
              rw [hy] at c1 hs
              obtain ⟨m, hm'⟩ : ∃ m, numL (r.take k) = m := ⟨_, rfl⟩
              rw [hm'] at hs hn2 ⊢
              have hor := u64_or_byte m y hn2 hy2
              clear hy hm'
              go_wp2
              go_round
              case rel => exact ⟨k + 1, by omega, by go_num, by rw [hs.out]; simp⟩
              case measure => simp [intOf]; omega
            · obtain rfl : k = 8 := by omega
              have hn8 : numL (r.take 8) < 18446744073709551616 := Nat.lt_of_lt_of_le (numL_take r 8 h8) (by decide)
              obtain ⟨m, hm'⟩ : ∃ m, numL (r.take 8) = m := ⟨_, rfl⟩
              rw [hm'] at hn8 HN ⊢
              have hb := u64_back m hn8
              clear hm'
              go_wp2
              exact tk_retA w _ _ _ ⟨1, (m : Int) - 9223372036854775808, ⟨#[]⟩⟩ 9 0 Tryz.results160 rfl rfl rfl rfl (.inl ⟨rfl, HN.out⟩)
      · have n1 : ((x.toNat : Int) == 1) = false := u8_ne (b := 1) h1
        have HN : Hid (R = none) := Lib.hid (by rw [HR.out, tkV_kind h2 h1])
        clear h2 h1 h
        go_enter Tryz.func160, Tryz.ntmps160
        go_wp2_with fail
        exact tk_retA w _ _ _ ⟨0, 0, ⟨#[]⟩⟩ 0 22 Tryz.results160 rfl rfl rfl rfl (.inr ⟨by decide, HN.out⟩)
end Go.Proofs.YtkbmipmegljidaaGreat
namespace Go.Proofs.YtkbmipmegljidaaGreat
open Go.RowKit Go.Maps

end Go.Proofs.YtkbmipmegljidaaGreat
namespace Go.Proofs.YtkbmipmegljidaaGreat
open Go.RowKit Go.Maps

/-- is a key not behind the last one? -/
def lateK (acc : List Pr) (key : ByteArray) : Bool := match acc.getLast? with
  | some q => decide (0 ≤ cmpL (runes q.key) (runes key))
  | none => false
def tkP : Nat → List Pr → List UInt8 → Nat → Option (List Pr × Nat)
  | 0, acc, _, n => some (acc, n)
  | _ + 1, _, [], _ => none
  | c + 1, acc, k :: r, n =>
    if r.length < k.toNat then none else
    if badS ⟨(r.take k.toNat).toArray⟩ = true then none else
    if lateK acc ⟨(r.take k.toNat).toArray⟩ = true then none else
    match tkV (r.drop k.toNat) with
    | none => none
    | some x => tkP c (acc ++ [⟨⟨(r.take k.toNat).toArray⟩, x.1⟩]) (r.drop (k.toNat + x.2)) (n + 1 + k.toNat + x.2)
/-- the properties with which bytes begin -/
def tkA : List UInt8 → Option (List Pr × Nat)
  | [] => none
  | b :: r => if 16 < b.toNat then none else tkP b.toNat [] r 1
theorem tkP_zero (acc : List Pr) (l : List UInt8) (n : Nat) : tkP 0 acc l n = some (acc, n) := by unfold tkP; rfl
theorem tkP_nil (c : Nat) (acc : List Pr) (n : Nat) : tkP (c + 1) acc [] n = none := by unfold tkP; rfl
theorem tkP_short {c : Nat} {acc : List Pr} {k : UInt8} {r : List UInt8} {n : Nat} (h : r.length < k.toNat) : tkP (c + 1) acc (k :: r) n = none := by rw [tkP]; simp [h]
theorem tkP_bad {c : Nat} {acc : List Pr} {k : UInt8} {r : List UInt8} {n : Nat} (h : badS ⟨(r.take k.toNat).toArray⟩ = true) : tkP (c + 1) acc (k :: r) n = none := by rw [tkP]; simp [h]
theorem tkP_late {c : Nat} {acc : List Pr} {k : UInt8} {r : List UInt8} {n : Nat} (h : lateK acc ⟨(r.take k.toNat).toArray⟩ = true) : tkP (c + 1) acc (k :: r) n = none := by rw [tkP]; simp [h]
theorem tkP_none {c : Nat} {acc : List Pr} {k : UInt8} {r : List UInt8} {n : Nat} (h : tkV (r.drop k.toNat) = none) : tkP (c + 1) acc (k :: r) n = none := by rw [tkP]; simp [h]
theorem tkP_step {c : Nat} {acc : List Pr} {k : UInt8} {r : List UInt8} {n : Nat} {v : Vl} {m : Nat} (h0 : ¬ r.length < k.toNat) (h1 : badS ⟨(r.take k.toNat).toArray⟩ = false) (h2 : lateK acc ⟨(r.take k.toNat).toArray⟩ = false) (h : tkV (r.drop k.toNat) = some (v, m)) :
    tkP (c + 1) acc (k :: r) n = tkP c (acc ++ [⟨⟨(r.take k.toNat).toArray⟩, v⟩]) (r.drop (k.toNat + m)) (n + 1 + k.toNat + m) := by rw [tkP]; simp [h0, h1, h2, h]
/-- what is taken is a right value of no more bytes than there are -/
theorem tkV_ok {l : List UInt8} {v : Vl} {m : Nat} (h : tkV l = some (v, m)) : v.Ok ∧ v.right = true ∧ 0 < m ∧ m ≤ l.length := by
  match l, h with
  | b :: r, h =>
    by_cases h2 : b = 2
    · subst h2
      rw [tkV_text] at h
      cases ht : tkT r [] 1 with
      | none => rw [ht] at h; cases h
      | some x =>
        rw [ht] at h
        simp at h
        obtain ⟨rfl, rfl⟩ := h
        obtain ⟨h1, h2, h3⟩ := tkT_len r.length r [] 1 x.1 x.2 (Nat.le_refl _) (by simp) ht
        have hs : (⟨x.1.toArray⟩ : ByteArray).size = x.1.length := rfl
        refine ⟨⟨by show I64 2; unfold I64; omega, by show I64 0; unfold I64; omega, by rw [hs]; unfold maxLen; omega⟩, ?_, by omega, by simp; omega⟩
        unfold Vl.right Vl.isT
        simp [hs, h1]
    · by_cases h1 : b = 1
      · subst h1
        by_cases hs : r.length < 8
        · rw [tkV_short hs] at h; cases h
        · rw [tkV_num hs] at h
          simp at h
          obtain ⟨rfl, rfl⟩ := h
          have hn8 : numL (r.take 8) < 18446744073709551616 := Nat.lt_of_lt_of_le (numL_take r 8 (by omega)) (by decide)
          refine ⟨⟨by show I64 1; unfold I64; omega, by constructor <;> (simp; omega), by unfold maxLen; exact Nat.zero_le _⟩, ?_, by omega, by simp; omega⟩
          unfold Vl.right Vl.isN
          simp
      · rw [tkV_kind h2 h1] at h; cases h
/-- a right value's bytes are taken as it -/
theorem tkV_bytes {v : Vl} (hok : v.Ok) (hr : v.right = true) (x : List UInt8) : tkV (v.bytes ++ x) = some (v, v.bytes.length) := by
  unfold Vl.bytes
  cases hn : v.isN
  · have ht : v.isT = true := by unfold Vl.right at hr; rw [hn] at hr; simpa using hr
    unfold Vl.isT at ht
    simp at ht
    rw [if_neg (by simp), List.cons_append, tkV_text, List.append_assoc, List.cons_append, List.cons_append, List.nil_append, tkT_esc _ _ _ _ (by simp; exact ht.2)]
    simp
    refine ⟨?_, by omega⟩
    obtain ⟨vk, vn, vs⟩ := v
    simp at ht
    obtain ⟨⟨rfl, rfl⟩, _⟩ := ht
    rfl
  · unfold Vl.isN at hn
    simp at hn
    rw [if_pos rfl, List.cons_append, tkV_num (by simp [numBytes, eight])]
    have he : (numBytes v.n ++ x).take 8 = numBytes v.n := by
      rw [List.take_append_of_le_length (by simp [numBytes, eight])]
      exact List.take_of_length_le (by simp [numBytes, eight])
    have h1 := hok.n
    unfold I64 at h1
    rw [he]
    unfold numBytes
    rw [numL_eight (by omega)]
    simp [eight]
    obtain ⟨vk, vn, vs⟩ := v
    simp at hn h1
    obtain ⟨rfl, hs⟩ := hn
    simp
    refine ⟨by omega, ?_⟩
    apply ByteArray.ext
    refine (Array.ext' ?_).symm
    rw [ByteArray.toList_eq] at hs
    exact hs
/-- properties that were taken -/
theorem tkP_ok : ∀ (c : Nat) (acc : List Pr) (l : List UInt8) (n : Nat) (ps : List Pr) (m : Nat), (∀ p ∈ acc, p.key.size ≤ 255 ∧ p.v.Ok) → tkP c acc l n = some (ps, m) → (∀ p ∈ ps, p.key.size ≤ 255 ∧ p.v.Ok) ∧ ps.length = acc.length + c ∧ n ≤ m ∧ m ≤ n + l.length
  | 0, acc, l, n, ps, m, ha, h => by
    rw [tkP_zero] at h
    simp at h
    obtain ⟨rfl, rfl⟩ := h
    exact ⟨ha, rfl, Nat.le_refl _, by omega⟩
  | c + 1, acc, [], n, ps, m, ha, h => by rw [tkP_nil] at h; cases h
  | c + 1, acc, k :: r, n, ps, m, ha, h => by
    by_cases h0 : r.length < k.toNat
    · rw [tkP_short h0] at h; cases h
    · cases h1 : badS ⟨(r.take k.toNat).toArray⟩
      · cases h2 : lateK acc ⟨(r.take k.toNat).toArray⟩
        · cases h3 : tkV (r.drop k.toNat) with
          | none => rw [tkP_none h3] at h; cases h
          | some x =>
            obtain ⟨v, j⟩ := x
            rw [tkP_step h0 h1 h2 h3] at h
            obtain ⟨o1, _, o3, o4⟩ := tkV_ok h3
            obtain ⟨i1, i2, i3, i4⟩ := tkP_ok c _ _ _ ps m (fun p hp => by
              rcases List.mem_append.1 hp with hp | hp
              · exact ha p hp
              · simp at hp
                subst hp
                refine ⟨?_, o1⟩
                show (r.take k.toNat).length ≤ 255
                have := k.toNat_lt
                rw [List.length_take]
                omega) h
            simp at i2 i4 o4
            refine ⟨i1, by omega, by omega, by simp; omega⟩
        · rw [tkP_late h2] at h; cases h
      · rw [tkP_bad h1] at h; cases h
theorem tkA_ok {l : List UInt8} {ps : List Pr} {m : Nat} (h : tkA l = some (ps, m)) : (∀ p ∈ ps, p.key.size ≤ 255 ∧ p.v.Ok) ∧ ps.length ≤ 16 ∧ m ≤ l.length := by
  match l, h with
  | b :: r, h =>
    unfold tkA at h
    by_cases hb : 16 < b.toNat
    · simp [hb] at h
    · simp only [hb, if_false] at h
      obtain ⟨h1, h2, _, h4⟩ := tkP_ok _ [] r 1 ps m (by simp) h
      simp at h2
      exact ⟨h1, by omega, by simp; omega⟩
end Go.Proofs.YtkbmipmegljidaaGreat
