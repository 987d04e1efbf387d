/- The reader of package redo: a record. Conditions: each contract's own premises. -/
import Derived.Test.YtcghgnncmnoalaaRd9
import Derived.Test.YtcghgnncmnoalaaRow
namespace Go.Proofs.Ytcghgnncmnoalaa
open Go.RowKit Go.Maps

theorem infoWr : (Try.prog.info? 80).map (fun i => (i.zero, i.size, i.bytes)) = some (some (.agg #[.int .i64 0, .int .i64 0, .int .i64 0, .string ⟨#[]⟩, .string ⟨#[]⟩, .bool false]), 6, 64) := by kernel_rfl
/-- writes, as elements -/
def kW : RowK Try.prog Wr where
  t := 33
  e := 80
  size := 6
  bytes := 64
  z := .agg #[.int .i64 0, .int .i64 0, .int .i64 0, .string ⟨#[]⟩, .string ⟨#[]⟩, .bool false]
  enc := Wr.cells
  ht := Try.underlying33
  info := infoWr
  hz := rfl
  pos := by decide
  small := by decide
  len := fun _ => rfl
  one := fun x u hu => by
    simp [Wr.cells] at hu
    rcases hu with rfl | rfl | rfl | rfl | rfl | rfl <;> rfl
theorem ws_of_row {w : World} {a : Option Addr} {ws : List Wr} (h : kW.V w a ws) (ho : ∀ x ∈ ws, x.Ok) : WsV w a ws := fun hn => by
  obtain ⟨b, off, e, hat⟩ := h hn
  exact ⟨b, off, e, ⟨fun i x hx => ⟨ho x (List.mem_of_getElem? hx), fun j v hv => hat.cells i x hx j v hv⟩, hat.lt⟩⟩
theorem row_of_ws {w : World} {a : Option Addr} {ws : List Wr} (h : WsV w a ws) : kW.V w a ws := fun hn => by
  obtain ⟨b, off, e, hat⟩ := h hn
  exact ⟨b, off, e, ⟨fun i x hx j v hv => (hat.cells i x hx).2 j v hv, hat.lt⟩⟩

def nuN (l : List UInt8) (n : Nat) : Option (Nat × List UInt8) := if n ≤ l.length then some (numL (l.take n), l.drop n) else none
def txN (l : List UInt8) (n : Nat) : Option (ByteArray × List UInt8) := if n ≤ l.length then some (⟨(l.take n).toArray⟩, l.drop n) else none
def tkW7 (k a b : Nat) (s : ByteArray) (h vn : Nat) (l : List UInt8) : Option (Wr × List UInt8) := match txN l vn with | none => none | some (v, l) => some (⟨⟨k, a, b, s⟩, v, h == 1⟩, l)
def tkW6 (k a b : Nat) (s : ByteArray) (h : Nat) (l : List UInt8) : Option (Wr × List UInt8) := match nuN l 2 with | none => none | some (vn, l) => tkW7 k a b s h vn l
def tkW5 (k a b : Nat) (s : ByteArray) (l : List UInt8) : Option (Wr × List UInt8) := match nuN l 1 with | none => none | some (h, l) => if 1 < h then none else tkW6 k a b s h l
def tkW4 (k a b sn : Nat) (l : List UInt8) : Option (Wr × List UInt8) := match txN l sn with | none => none | some (s, l) => tkW5 k a b s l
def tkW3 (k a b : Nat) (l : List UInt8) : Option (Wr × List UInt8) := match nuN l 2 with | none => none | some (sn, l) => tkW4 k a b sn l
def tkW2 (k a : Nat) (l : List UInt8) : Option (Wr × List UInt8) := match nuN l 5 with | none => none | some (b, l) => tkW3 k a b l
def tkW1 (k : Nat) (l : List UInt8) : Option (Wr × List UInt8) := match nuN l 5 with | none => none | some (a, l) => tkW2 k a l
/-- a write out of bytes -/
def tkW (l : List UInt8) : Option (Wr × List UInt8) := match nuN l 1 with | none => none | some (k, l) => tkW1 k l
def tkWs : Nat → List UInt8 → List Wr → Option (List Wr × List UInt8)
  | 0, l, acc => some (acc, l)
  | n + 1, l, acc => match tkW l with | none => none | some (x, l) => tkWs n l (acc ++ [x])
def tkR2 (st n : Nat) (l : List UInt8) : Option (Rc × List UInt8) := match tkWs n l [] with | none => none | some (ws, l) => some (⟨st, ws⟩, l)
def tkR1 (st : Nat) (l : List UInt8) : Option (Rc × List UInt8) := match nuN l 2 with | none => none | some (n, l) => tkR2 st n l
/-- a record out of bytes -/
def tkR (l : List UInt8) : Option (Rc × List UInt8) := match nuN l 8 with | none => none | some (st, l) => tkR1 st l
def NuPost (w : World) (rb D : Nat) (l : List UInt8) (n : Nat) (e : Ending) (w' : World) : Prop :=
  Chg w w' (· = rb) ∧ ((∃ (m : Nat) (l' : List UInt8), nuN l n = some (m, l') ∧ e = .returned (.int .u64 m) ∧ RdS w' rb D l' ∧ m < 256 ^ n ∧ l'.length ≤ l.length) ∨ (nuN l n = none ∧ e = .panicked shortP))
theorem num_at (rb D : Nat) (l : List UInt8) (n : Nat) (w : World) (h : RdS w rb D l) (hl : l.length ≤ 3000000) (hn : n ≤ 8) :
    Calls Try.prog 91 #[.pointer (some ⟨rb, 0, none⟩), .int .i64 n] w (NuPost w rb D l n) := by
  refine (number_any rb D l n w h hl hn).mono ?_
  rintro e w' ⟨hc, ⟨v, l', ho, rfl, hr⟩ | ⟨ho, rfl⟩⟩
  · unfold nuO at ho
    split at ho
    · rename_i hle
      injection ho with ho
      injection ho with h1 h2
      subst h1 h2
      exact ⟨hc, .inl ⟨_, _, if_pos hle, rfl, hr, numL_take l n hle, by simp⟩⟩
    · cases ho
  · refine ⟨hc, .inr ⟨?_, rfl⟩⟩
    unfold nuO at ho
    split at ho
    · cases ho
    · rename_i hh; exact if_neg hh
def TxPost (w : World) (rb D : Nat) (l : List UInt8) (n : Nat) (e : Ending) (w' : World) : Prop :=
  Chg w w' (· = rb) ∧ ((∃ (s : ByteArray) (l' : List UInt8), txN l n = some (s, l') ∧ e = .returned (.string s) ∧ RdS w' rb D l' ∧ s.size = n ∧ l'.length ≤ l.length) ∨ (txN l n = none ∧ e = .panicked shortP))
theorem txt_at (rb D : Nat) (l : List UInt8) (n : Nat) (w : World) (h : RdS w rb D l) (hl : l.length ≤ 3000000) (hn : n ≤ 3000000) :
    Calls Try.prog 130 #[.pointer (some ⟨rb, 0, none⟩), .int .i64 n] w (TxPost w rb D l n) := by
  refine (text_any rb D l n w h hl hn).mono ?_
  rintro e w' ⟨hc, ⟨v, l', ho, rfl, hr⟩ | ⟨ho, rfl⟩⟩
  · unfold txO at ho
    split at ho
    · rename_i hle
      injection ho with ho
      injection ho with h1 h2
      subst h1 h2
      exact ⟨hc, .inl ⟨_, _, if_pos hle, rfl, hr, by show (l.take n).length = n; simp; omega, by simp⟩⟩
    · cases ho
  · refine ⟨hc, .inr ⟨?_, rfl⟩⟩
    unfold txO at ho
    split at ho
    · cases ho
    · rename_i hh; exact if_neg hh
/-- what a record's reading has laid so far -/
structure RecS (w : World) (rb b2 ob B : Nat) (st : Nat) (v : Value) (acc : List Wr) (wr : World) : Prop where
  chg : Chg w wr (· = rb)
  eb : wr.heap[b2]? = some (.cells #[.int .u64 0, .slice none 0 0] 35)
  eo : wr.heap[ob]? = some (.cells #[.int .u64 st, v] 35)
  own : kW.Own wr B v acc
  lt : rb < w.heap.size ∧ w.heap.size ≤ b2 ∧ b2 < ob ∧ ob < B ∧ B ≤ wr.heap.size
theorem RecS.step {w wr w' : World} {rb b2 ob B st : Nat} {v : Value} {acc : List Wr} (h : RecS w rb b2 ob B st v acc wr) (hc : Chg wr w' (· = rb)) : RecS w rb b2 ob B st v acc w' := by
  obtain ⟨l1, l2, l3, l4, l5⟩ := h.lt
  exact ⟨h.chg.trans hc (fun i _ hi => hi), (hc.block _ (by omega) (by omega)).trans h.eb, (hc.block _ (by omega) (by omega)).trans h.eo, h.own.chg hc (fun j hj e => by have := (h.own.lt j hj).1; omega), l1, l2, l3, l4, Nat.le_trans l5 hc.size⟩
theorem chg_bel {w w' : World} {S : Nat → Prop} (h : Below w.heap.size w w') : Chg w w' S := Chg.of_below h S
theorem RdS.chg_new {w w' : World} {rb D : Nat} {l : List UInt8} (h : RdS w rb D l) (hb : Below w.heap.size w w') : RdS w' rb D l := h.below hb
/-- what a record's reading leaves -/
def RecPost (w : World) (rb D : Nat) (o : Option (Rc × List UInt8)) (e : Ending) (w' : World) : Prop :=
  Chg w w' (· = rb) ∧ ((∃ r l v, o = some (r, l) ∧ e = .returned (.agg #[.int .u64 (r.stamp : Nat), v]) ∧ RdS w' rb D l ∧ kW.Own w' w.heap.size v r.ws ∧ (∀ x ∈ r.ws, x.Ok) ∧ r.stamp < 18446744073709551616 ∧ r.ws.length < 65536) ∨ (o = none ∧ e = .panicked shortP))
theorem setB {w : World} {b i : Nat} {c : Array Value} {t : TypeId} (h : w.heap[b]? = some (.cells c t)) (u : Value) : (w.setCell ⟨b, i, none⟩ u).heap[b]? = some (.cells (c.setIfInBounds i u) t) := blk_setCell h u
theorem beq_cast (a b : Nat) : ((a : Int) == (b : Int)) = (a == b) := by
  by_cases h : a = b
  · subst h; simp
  · have h2 : ¬ (a : Int) = (b : Int) := by omega
    rw [beq_eq_false_iff_ne.2 h2, beq_eq_false_iff_ne.2 h]
theorem RdS.of {w w' : World} {rb D : Nat} {l : List UInt8} (h : RdS w rb D l) (h1 : w'.heap[rb]? = w.heap[rb]?) (h2 : ∀ i, i < D → i ≠ rb → w'.heap[i]? = w.heap[i]?) : RdS w' rb D l := by
  obtain ⟨a, cap, r1, r2, r3, r4⟩ := h.ex
  refine ⟨a, cap, h1.trans r1, r2, fun hne => ?_, r4⟩
  obtain ⟨b, off, e, hat⟩ := r3 hne
  rcases r4 with ⟨e2, _⟩ | ⟨b', off', e2, hn, hl⟩
  · rw [e2] at e; cases e
  · rw [e2] at e
    injection e with e
    injection e with e3 e4
    subst e3 e4
    exact ⟨b', off', e2, hat.of_block (h2 _ hl hn)⟩
/-- a store beside the reader and its bytes -/
theorem rds_set {w : World} {rb D : Nat} {l : List UInt8} (h : RdS w rb D l) {b i : Nat} {u : Value} (hb : b ≠ rb) (hD : D ≤ b) : RdS (w.setCell ⟨b, i, none⟩ u) rb D l :=
  h.of (Below.heap_setCell _ _ _ _ (fun e => hb (by simpa using e.symm))) (fun j hj _ => Below.heap_setCell _ _ _ _ (fun e => by
    have : j = b := by simpa using e
    omega))
theorem rec_next {w u w9 : World} {X : Obj} {rb b2 ob B st : Nat} {v v9 : Value} {acc acc9 : List Wr} (h : RecS w rb b2 ob B st v acc u) (hg : ∀ i, i < u.heap.size → v.ownBlock ≠ some i → w9.heap[i]? = u.heap[i]?)
    (g : (u.alloc X).grownBy w9 v.ownBlock) (o : kW.Own w9 B v9 acc9) : RecS w rb b2 ob B st v9 acc9 (w9.setCell ⟨ob, 1, none⟩ v9) := by
  obtain ⟨l1, l2, l3, l4, l5⟩ := h.lt
  have hown : ∀ i, i < B → v.ownBlock ≠ some i := fun i hi e => by have := (h.own.lt i e).1; omega
  have hs : u.heap.size ≤ w9.heap.size := by have := g.size; simp at this; omega
  have hset : ∀ i, i ≠ ob → (w9.setCell ⟨ob, 1, none⟩ v9).heap[i]? = w9.heap[i]? := fun i hi => Below.heap_setCell _ _ _ _ (fun e => hi (by simpa using e))
  refine ⟨⟨g.os.trans h.chg.os, g.tape.trans h.chg.tape, g.output.trans h.chg.output, by rw [size_setCell]; exact Nat.le_trans h.chg.size hs, fun i hi hn => ?_⟩, ?_, ?_, ?_, l1, l2, l3, l4, by rw [size_setCell]; omega⟩
  · rw [hset i (by omega), hg i (by omega) (hown i (by omega))]
    exact h.chg.block i hi hn
  · rw [hset b2 (by omega), hg b2 (by omega) (hown b2 (by omega))]
    exact h.eb
  · have e : w9.heap[ob]? = some (.cells #[.int .u64 (st : Int), v] 35) := (hg ob (by omega) (hown ob l4)).trans h.eo
    rw [setB e]; rfl
  · exact ownsRow_of_block o (fun j hj => hset j (by have := (o.lt j hj).1; omega))
theorem rds_next {u w9 : World} {rb D ob B : Nat} {l : List UInt8} {v v9 : Value} (h : RdS u rb D l) (hg : ∀ i, i < u.heap.size → v.ownBlock ≠ some i → w9.heap[i]? = u.heap[i]?) (hown : ∀ i, v.ownBlock = some i → B ≤ i) (h1 : rb < ob) (h2 : D ≤ ob) (h3 : ob < B) (h4 : B ≤ u.heap.size) :
    RdS (w9.setCell ⟨ob, 1, none⟩ v9) rb D l := by
  have hh : ∀ i, i < ob → w9.heap[i]? = u.heap[i]? := fun i hi => hg i (by omega) (fun e => by have := hown i e; omega)
  exact rds_set (h.of (hh rb h1) (fun i hi _ => hh i (by omega))) (by omega) h2
theorem byte1 {n : Nat} (h : n < 256) : n < 256 ^ 1 := h
set_option maxRecDepth 100000 in
set_option maxHeartbeats 8000000 in
theorem record_any (rb D : Nat) (l : List UInt8) (w : World) (h : RdS w rb D l) (hD : D ≤ w.heap.size) (hl : l.length ≤ 3000000) :
    Calls Try.prog 90 #[.pointer (some ⟨rb, 0, none⟩)] w (RecPost w rb D (tkR l)) := by
  obtain ⟨R, hR⟩ : ∃ R, R = tkR l := ⟨_, rfl⟩
  rw [← hR]
  have HR : Hid (R = match nuN l 8 with | none => none | some (st, l) => tkR1 st l) := Lib.hid hR
  have hlt := h.lt
  obtain ⟨W, hW⟩ : ∃ W, W = w.alloc (.cells #[.int .u64 0, .slice none 0 0] 35) := ⟨_, rfl⟩
  have hzW : W.heap.size = w.heap.size + 1 := by rw [hW]; simp
  have hBW : Below w.heap.size w W := by rw [hW]; exact below_box w _
  have eW : W.heap[w.heap.size]? = some (.cells #[.int .u64 0, .slice none 0 0] 35) := by rw [hW]; exact heap_new w _
  have HW := Lib.hid hW
  have HB2 := Lib.hid eW
  have HBW := Lib.hid hBW
  have HD := Lib.hid (h.below hBW)
  have HZW := Lib.hid hzW
  clear hR hW hBW eW h hzW
  go_enter Try.func90, Try.ntmps90
  go_wp2_with fail
  rw [← HW.out]
  refine (num_at rb D l 8 _ HD.out (by omega) (by omega)).mono ?_
  rintro e w1 ⟨hc, hor⟩
  have HC := Lib.hid hc
  clear hc
  rcases hor with ⟨st, l1, ho, rfl, hr, hmst, hll⟩ | ⟨ho, rfl⟩
  · have HN : Hid (R = _) := Lib.hid (by rw [HR.out, ho])
    replace HR := HN
    clear HN ho
    replace HD := Lib.hid hr
    clear hr
    have hmst' : st < 18446744073709551616 := hmst
    have HMST := Lib.hid hmst'
    clear hmst hmst'
    have HLL : Hid (l1.length ≤ l.length) := Lib.hid hll
    have hl1 : l1.length ≤ 3000000 := by omega
    clear hll
    replace HR : Hid (R = match nuN l1 2 with | none => none | some (n, l) => tkR2 st n l) := HR
    go_wp2_with fail
    obtain ⟨V, hV⟩ : ∃ V, V = w1.alloc (.cells #[.int .u64 (st : Int), .slice none 0 0] 35) := ⟨_, rfl⟩
    have zV : V.heap.size = w1.heap.size + 1 := by rw [hV]; simp
    have bV : Below w1.heap.size w1 V := by rw [hV]; exact below_box w1 _
    have eV : V.heap[w1.heap.size]? = some (.cells #[.int .u64 (st : Int), .slice none 0 0] 35) := by rw [hV]; exact heap_new w1 _
    have hsW := HC.out.size
    have HS : Hid (RecS w rb w.heap.size w1.heap.size V.heap.size st (.slice none 0 0) [] V) := Lib.hid ⟨(chg_below (chg_below (Chg.refl w _) HBW.out |>.trans HC.out (fun i _ hi => hi)) bV), (bV.block _ (by have := HZW.out; omega)).trans ((HC.out.block _ (by have := HZW.out; omega) (by omega)).trans HB2.out), eV, RowK.Own.nil kW _ _, hlt, Nat.le_refl _, by have := HZW.out; omega, by omega, Nat.le_refl _⟩
    have HV := Lib.hid hV
    replace HD := Lib.hid (HD.out.below bV)
    rw [← HV.out]
    obtain ⟨ob, hob⟩ : ∃ ob, w1.heap.size = ob := ⟨_, rfl⟩
    rw [hob] at HS ⊢
    clear hV zV bV eV hsW HC hob
    obtain ⟨l0, hl0⟩ : ∃ l0, l0 = l1 := ⟨_, rfl⟩
    rw [← hl0] at HR HD hl1
    go_wp2_with fail
    refine (num_at rb D l0 2 _ HD.out (by omega) (by omega)).mono ?_
    rintro e w1 ⟨hc, hor⟩
    have HC := Lib.hid hc
    replace HS := Lib.hid (HS.out.step HC.out)
    clear hc
    rcases hor with ⟨n, l1, ho, rfl, hr, hmn, hll⟩ | ⟨ho, rfl⟩
    · have HN : Hid (R = _) := Lib.hid (by rw [HR.out, ho])
      replace HR := HN
      clear HN ho
      replace HD := Lib.hid hr
      clear hr
      have hn16 : n < 65536 := hmn
      have HLL2 : Hid (l1.length ≤ l0.length) := Lib.hid hll
      have hl2 : l1.length ≤ 3000000 := by omega
      clear hmn hll hl0
      replace HR : Hid (R = match tkWs n l1 [] with | none => none | some (ws, l) => some (⟨st, ws⟩, l)) := HR
      obtain ⟨B, hB⟩ : ∃ B, V.heap.size = B := ⟨_, rfl⟩
      rw [hB] at HS
      clear hB HV HB2 HBW HC HW
      go_wp2_with fail
      go_loopw [12] (fun i wr => ∃ (k : Nat) (acc : List Wr) (lr : List UInt8) (v : Value), k ≤ n ∧ i = .int .u64 k ∧ acc.length = k ∧ lr.length ≤ 3000000 ∧ Hid (RecS w rb w.heap.size ob B st v acc wr) ∧ Hid (RdS wr rb D lr) ∧ Hid (∀ x ∈ acc, x.Ok) ∧ Hid (R = match tkWs (n - k) lr acc with | none => none | some (ws, l) => some (⟨st, ws⟩, l))) (fun i _ => n - (intOf i).toNat)
      case atStart => exact ⟨0, [], l1, _, by omega, rfl, rfl, hl2, HS, HD, Lib.hid (fun x hx => by cases hx), HR⟩
      case round =>
        obtain ⟨k, acc, lr, v, hk, rfl, hak, hlr, HS, HD, HOK, HR⟩ := hrel
        obtain ⟨l1', l2', l3', l4', l5'⟩ := HS.out.lt
        have HAK := Lib.hid hak
        clear hak
        by_cases hlt2 : k < n
        · obtain ⟨q, hq⟩ : ∃ q, n - k = q + 1 := ⟨n - k - 1, by omega⟩
          have HQ : Hid (n - (k + 1) = q) := Lib.hid (by omega)
          rw [hq] at HR
          replace HR : Hid (R = match (match (match nuN lr 1 with | none => none | some (k, l) => tkW1 k l) with | none => none | some (x, l) => tkWs q l (acc ++ [x])) with | none => none | some (ws, l) => some (⟨st, ws⟩, l)) := HR
          clear hq
          go_wp2_with fail
          have HC0 : Hid (Chg wr wr (· = rb)) := Lib.hid (Chg.refl _ _)
          refine (num_at rb D lr 1 _ HD.out (by omega) (by omega)).mono ?_
          rintro e w1 ⟨hc, hor⟩
          have HC := Lib.hid hc
          replace HC0 := Lib.hid (HC0.out.trans HC.out (fun i _ hi => hi))
          clear hc
          rcases hor with ⟨kd, l1, ho, rfl, hr, hmkd, hll⟩ | ⟨ho, rfl⟩
          · have HN : Hid (R = _) := Lib.hid (by rw [HR.out, ho])
            replace HR := HN
            clear HN ho
            replace HD := Lib.hid hr
            clear hr
            have hkd : kd < 256 := hmkd
            clear hmkd
            have hl1 : l1.length ≤ 3000000 := by omega
            clear hll
            replace HR : Hid (R = match (match (match nuN l1 5 with | none => none | some (a, l) => tkW2 kd a l) with | none => none | some (x, l) => tkWs q l (acc ++ [x])) with | none => none | some (ws, l) => some (⟨st, ws⟩, l)) := HR
            go_wp2_with fail
            refine (num_at rb D l1 5 _ HD.out (by omega) (by omega)).mono ?_
            rintro e w2 ⟨hc, hor⟩
            have HC := Lib.hid hc
            replace HC0 := Lib.hid (HC0.out.trans HC.out (fun i _ hi => hi))
            clear hc
            rcases hor with ⟨ka, l2, ho, rfl, hr, hmka, hll⟩ | ⟨ho, rfl⟩
            · have HN : Hid (R = _) := Lib.hid (by rw [HR.out, ho])
              replace HR := HN
              clear HN ho
              replace HD := Lib.hid hr
              clear hr
              have hka : ka < 1099511627776 := hmka
              clear hmka
              have hl2 : l2.length ≤ 3000000 := by omega
              clear hll
              replace HR : Hid (R = match (match (match nuN l2 5 with | none => none | some (b, l) => tkW3 kd ka b l) with | none => none | some (x, l) => tkWs q l (acc ++ [x])) with | none => none | some (ws, l) => some (⟨st, ws⟩, l)) := HR
              go_wp2_with fail
              refine (num_at rb D l2 5 _ HD.out (by omega) (by omega)).mono ?_
              rintro e w3 ⟨hc, hor⟩
              have HC := Lib.hid hc
              replace HC0 := Lib.hid (HC0.out.trans HC.out (fun i _ hi => hi))
              clear hc
              rcases hor with ⟨kb, l3, ho, rfl, hr, hmkb, hll⟩ | ⟨ho, rfl⟩
              · have HN : Hid (R = _) := Lib.hid (by rw [HR.out, ho])
                replace HR := HN
                clear HN ho
                replace HD := Lib.hid hr
                clear hr
                have hkb : kb < 1099511627776 := hmkb
                clear hmkb
                have hl3 : l3.length ≤ 3000000 := by omega
                clear hll
                replace HR : Hid (R = match (match (match nuN l3 2 with | none => none | some (sn, l) => tkW4 kd ka kb sn l) with | none => none | some (x, l) => tkWs q l (acc ++ [x])) with | none => none | some (ws, l) => some (⟨st, ws⟩, l)) := HR
                have hwkd : IntKind.i64.wrap (kd : Int) = kd := by rw [IntKind.wrap_i64]; omega
                have hwka : IntKind.i64.wrap (ka : Int) = ka := by rw [IntKind.wrap_i64]; omega
                have hwkb : IntKind.i64.wrap (kb : Int) = kb := by rw [IntKind.wrap_i64]; omega
                go_upto_region 5 with fail
                obtain ⟨s, hs⟩ : ∃ s, s = w3.alloc (.cells #[.int .i64 (kd : Int), .int .i64 (ka : Int), .int .i64 (kb : Int), .string ⟨#[]⟩] 62) := ⟨_, rfl⟩
                rw [← hs]
                obtain ⟨kk, hkk⟩ : ∃ kk, kk = w3.heap.size := ⟨_, rfl⟩
                rw [← hkk]
                have eS : s.heap[kk]? = some (.cells #[.int .i64 (kd : Int), .int .i64 (ka : Int), .int .i64 (kb : Int), .string ⟨#[]⟩] 62) := by rw [hs, hkk]; exact heap_new _ _
                have dS : RdS s rb D l3 := by rw [hs]; exact HD.out.below (below_box _ _)
                have cS : Chg wr s (· = rb) := by rw [hs]; exact HC0.out.alloc _
                have hkw : wr.heap.size ≤ kk := by rw [hkk]; exact HC0.out.size
                have EK := Lib.hid eS
                replace HC0 := Lib.hid cS
                replace HD := Lib.hid dS
                clear hs eS dS cS hkk
                go_wp2_with fail
                refine (num_at rb D l3 2 _ HD.out (by omega) (by omega)).mono ?_
                rintro e w4 ⟨hc, hor⟩
                have HC := Lib.hid hc
                replace HC0 := Lib.hid (HC0.out.trans HC.out (fun i _ hi => hi))
                replace EK := Lib.hid ((HC.out.block _ (Array.getElem?_eq_some_iff.1 EK.out).1 (by omega)).trans EK.out)
                clear hc
                rcases hor with ⟨sn, l4, ho, rfl, hr, hmsn, hll⟩ | ⟨ho, rfl⟩
                · have HN : Hid (R = _) := Lib.hid (by rw [HR.out, ho])
                  replace HR := HN
                  clear HN ho
                  replace HD := Lib.hid hr
                  clear hr
                  have hsn : sn < 65536 := hmsn
                  clear hmsn
                  have hl4 : l4.length ≤ 3000000 := by omega
                  clear hll
                  replace HR : Hid (R = match (match (match txN l4 sn with | none => none | some (s, l) => tkW5 kd ka kb s l) with | none => none | some (x, l) => tkWs q l (acc ++ [x])) with | none => none | some (ws, l) => some (⟨st, ws⟩, l)) := HR
                  have hwsn : IntKind.i64.wrap (sn : Int) = sn := by rw [IntKind.wrap_i64]; omega
                  go_wp2_with fail
                  refine (txt_at rb D l4 sn _ HD.out (by omega) (by omega)).mono ?_
                  rintro e w5 ⟨hc, hor⟩
                  have HC := Lib.hid hc
                  replace HC0 := Lib.hid (HC0.out.trans HC.out (fun i _ hi => hi))
                  replace EK := Lib.hid ((HC.out.block _ (Array.getElem?_eq_some_iff.1 EK.out).1 (by omega)).trans EK.out)
                  clear hc
                  rcases hor with ⟨ks, l5, ho, rfl, hr, hmks, hll⟩ | ⟨ho, rfl⟩
                  · have HN : Hid (R = _) := Lib.hid (by rw [HR.out, ho])
                    replace HR := HN
                    clear HN ho
                    replace HD := Lib.hid hr
                    clear hr
                    have HKS := Lib.hid hmks
                    clear hmks
                    have hl5 : l5.length ≤ 3000000 := by omega
                    clear hll
                    replace HR : Hid (R = match (match (tkW5 kd ka kb ks l5) with | none => none | some (x, l) => tkWs q l (acc ++ [x])) with | none => none | some (ws, l) => some (⟨st, ws⟩, l)) := HR
                    have g0 := cell_of_blk EK.out 0
                    have g1 := cell_of_blk EK.out 1
                    have g2 := cell_of_blk EK.out 2
                    have g3 := cell_of_blk EK.out 3
                    have fg3 := frozen_of_blk EK.out 3
                    simp at g0 g1 g2 g3
                    have lk5 := (Array.getElem?_eq_some_iff.1 EK.out).1
                    go_upto_region 7 with fail
                    obtain ⟨s, hs⟩ : ∃ s, s = (w5.setCell ⟨kk, 3, none⟩ (.string ks)).alloc (.cells #[.int .i64 (kd : Int), .int .i64 (ka : Int), .int .i64 (kb : Int), .string ks, .string ⟨#[]⟩, .bool false] 80) := ⟨_, rfl⟩
                    rw [← hs]
                    obtain ⟨wb, hwb⟩ : ∃ wb, wb = w5.heap.size := ⟨_, rfl⟩
                    rw [← hwb]
                    have eS : s.heap[wb]? = some (.cells #[.int .i64 (kd : Int), .int .i64 (ka : Int), .int .i64 (kb : Int), .string ks, .string ⟨#[]⟩, .bool false] 80) := by rw [hs, hwb, ← size_setCell w5 ⟨kk, 3, none⟩ (.string ks)]; exact heap_new _ _
                    have dS0 : RdS (w5.setCell ⟨kk, 3, none⟩ (.string ks)) rb D l5 := rds_set HD.out (by omega) (by omega)
                    have dS : RdS s rb D l5 := by rw [hs]; exact dS0.below (below_box _ _)
                    have cS : Chg wr s (· = rb) := by rw [hs]; exact (HC0.out.setCell (fun h => absurd h (by show ¬ kk < _; omega)) _).alloc _
                    have hwk : kk < wb := by rw [hwb]; exact lk5
                    have EW := Lib.hid eS
                    replace HC0 := Lib.hid cS
                    replace HD := Lib.hid dS
                    clear hs eS dS dS0 cS g0 g1 g2 g3 fg3 lk5 hwb EK
                    replace HR : Hid (R = match (match (match nuN l5 1 with | none => none | some (h, l) => if 1 < h then none else tkW6 kd ka kb ks h l) with | none => none | some (x, l) => tkWs q l (acc ++ [x])) with | none => none | some (ws, l) => some (⟨st, ws⟩, l)) := HR
                    go_wp2_with fail
                    refine (num_at rb D l5 1 _ HD.out (by omega) (by omega)).mono ?_
                    rintro e w6 ⟨hc, hor⟩
                    have HC := Lib.hid hc
                    replace HC0 := Lib.hid (HC0.out.trans HC.out (fun i _ hi => hi))
                    replace EW := Lib.hid ((HC.out.block _ (Array.getElem?_eq_some_iff.1 EW.out).1 (by omega)).trans EW.out)
                    clear hc
                    rcases hor with ⟨hn, l6, ho, rfl, hr, hmhn, hll⟩ | ⟨ho, rfl⟩
                    · have HN : Hid (R = _) := Lib.hid (by rw [HR.out, ho])
                      replace HR := HN
                      clear HN ho
                      replace HD := Lib.hid hr
                      clear hr
                      have hhn : hn < 256 := hmhn
                      clear hmhn
                      have hl6 : l6.length ≤ 3000000 := by omega
                      clear hll
                      replace HR : Hid (R = match (match (if 1 < hn then none else tkW6 kd ka kb ks hn l6) with | none => none | some (x, l) => tkWs q l (acc ++ [x])) with | none => none | some (ws, l) => some (⟨st, ws⟩, l)) := HR
                      obtain ⟨hh, hhb⟩ : ∃ h, (hn == 1) = h := ⟨_, rfl⟩
                      have HHB := Lib.hid hhb
                      have thh : ((hn : Int) == 1) = hh := by rw [← hhb]; exact beq_cast hn 1
                      clear hhb
                      have g5 := cell_of_blk EW.out 5
                      have fg5 := frozen_of_blk EW.out 5
                      simp at g5
                      have lw6 := (Array.getElem?_eq_some_iff.1 EW.out).1
                      obtain ⟨t, ht⟩ : ∃ t, t = w6.setCell ⟨wb, 5, none⟩ (.bool hh) := ⟨_, rfl⟩
                      have eT : t.heap[wb]? = some (.cells #[.int .i64 (kd : Int), .int .i64 (ka : Int), .int .i64 (kb : Int), .string ks, .string ⟨#[]⟩, .bool hh] 80) := by rw [ht, setB EW.out]; rfl
                      have cT : Chg wr t (· = rb) := by rw [ht]; exact HC0.out.setCell (fun h => absurd h (by show ¬ wb < _; omega)) _
                      have dT : RdS t rb D l6 := by rw [ht]; exact rds_set HD.out (by omega) (by omega)
                      have zT : t.heap.size = w6.heap.size := by rw [ht, size_setCell]
                      have HT := Lib.hid ht
                      replace EW := Lib.hid eT
                      replace HC0 := Lib.hid cT
                      replace HD := Lib.hid dT
                      clear ht eT cT dT
                      by_cases h1 : 1 < hn
                      · have HN : Hid (R = none) := Lib.hid (by rw [HR.out, if_pos h1])
                        go_wp2_with fail
                        rw [← HT.out]
                        exact end_panic rfl ⟨HS.out.chg.trans HC0.out (fun i _ hi => hi), .inr ⟨HN.out, rfl⟩⟩
                      · rw [if_neg h1] at HR
                        replace HR : Hid (R = match (match (match nuN l6 2 with | none => none | some (vn, l) => tkW7 kd ka kb ks hn vn l) with | none => none | some (x, l) => tkWs q l (acc ++ [x])) with | none => none | some (ws, l) => some (⟨st, ws⟩, l)) := HR
                        go_wp2_with fail
                        rw [← HT.out]
                        clear g5 fg5 lw6 thh zT
                        refine (num_at rb D l6 2 _ HD.out (by omega) (by omega)).mono ?_
                        rintro e w7 ⟨hc, hor⟩
                        have HC := Lib.hid hc
                        replace HC0 := Lib.hid (HC0.out.trans HC.out (fun i _ hi => hi))
                        replace EW := Lib.hid ((HC.out.block _ (Array.getElem?_eq_some_iff.1 EW.out).1 (by omega)).trans EW.out)
                        clear hc
                        rcases hor with ⟨vn, l7, ho, rfl, hr, hmvn, hll⟩ | ⟨ho, rfl⟩
                        · have HN : Hid (R = _) := Lib.hid (by rw [HR.out, ho])
                          replace HR := HN
                          clear HN ho
                          replace HD := Lib.hid hr
                          clear hr
                          have hvn : vn < 65536 := hmvn
                          clear hmvn
                          have hl7 : l7.length ≤ 3000000 := by omega
                          clear hll
                          replace HR : Hid (R = match (match (tkW7 kd ka kb ks hn vn l7) with | none => none | some (x, l) => tkWs q l (acc ++ [x])) with | none => none | some (ws, l) => some (⟨st, ws⟩, l)) := HR
                          have hwvn : IntKind.i64.wrap (vn : Int) = vn := by rw [IntKind.wrap_i64]; omega
                          replace HR : Hid (R = match (match (match txN l7 vn with | none => none | some (v, l) => some ((⟨⟨kd, ka, kb, ks⟩, v, hn == 1⟩ : Wr), l)) with | none => none | some (x, l) => tkWs q l (acc ++ [x])) with | none => none | some (ws, l) => some (⟨st, ws⟩, l)) := HR
                          go_wp2_with fail
                          refine (txt_at rb D l7 vn _ HD.out (by omega) (by omega)).mono ?_
                          rintro e w8 ⟨hc, hor⟩
                          have HC := Lib.hid hc
                          replace HC0 := Lib.hid (HC0.out.trans HC.out (fun i _ hi => hi))
                          replace EW := Lib.hid ((HC.out.block _ (Array.getElem?_eq_some_iff.1 EW.out).1 (by omega)).trans EW.out)
                          clear hc
                          rcases hor with ⟨val, l8, ho, rfl, hr, hmval, hll⟩ | ⟨ho, rfl⟩
                          · have HN : Hid (R = _) := Lib.hid (by rw [HR.out, ho])
                            replace HR := HN
                            clear HN ho
                            replace HD := Lib.hid hr
                            clear hr
                            have HVS := Lib.hid hmval
                            clear hmval
                            have hl8 : l8.length ≤ 3000000 := by omega
                            clear hll
                            replace HR : Hid (R = match (match (some ((⟨⟨kd, ka, kb, ks⟩, val, hn == 1⟩ : Wr), l8)) with | none => none | some (x, l) => tkWs q l (acc ++ [x])) with | none => none | some (ws, l) => some (⟨st, ws⟩, l)) := HR
                            rw [HHB.out] at HR
                            replace HR : Hid (R = match tkWs q l8 (acc ++ [⟨⟨kd, ka, kb, ks⟩, val, hh⟩]) with | none => none | some (ws, l) => some (⟨st, ws⟩, l)) := HR
                            have fw4 := frozen_of_blk EW.out 4
                            have d4 := cell_of_blk EW.out 4
                            simp at d4
                            obtain ⟨u, hu⟩ : ∃ u, u = w8.setCell ⟨wb, 4, none⟩ (.string val) := ⟨_, rfl⟩
                            have eU : u.heap[wb]? = some (.cells #[.int .i64 (kd : Int), .int .i64 (ka : Int), .int .i64 (kb : Int), .string ks, .string val, .bool hh] 80) := by rw [hu, setB EW.out]; rfl
                            have cU : Chg wr u (· = rb) := by rw [hu]; exact HC0.out.setCell (fun h => absurd h (by show ¬ wb < _; omega)) _
                            have dU : RdS u rb D l8 := by
                              rw [hu]
                              exact rds_set HD.out (by omega) (by omega)
                            have HU := Lib.hid hu
                            have zU : u.heap.size = w8.heap.size := by rw [hu, size_setCell]
                            have EU := Lib.hid eU
                            have CU := Lib.hid cU
                            have DU := Lib.hid dU
                            have lU := (Array.getElem?_eq_some_iff.1 eU).1
                            clear hu eU cU dU HD EW HC0 zU
                            have SU := Lib.hid (HS.out.step CU.out)
                            obtain ⟨va, vc, hv⟩ := SU.out.own.shape
                            have HV0 := Lib.hid hv
                            subst hv
                            have a0 := cell_of_blk EU.out 0
                            have a1 := cell_of_blk EU.out 1
                            have a2 := cell_of_blk EU.out 2
                            have a3 := cell_of_blk EU.out 3
                            have a4 := cell_of_blk EU.out 4
                            have a5 := cell_of_blk EU.out 5
                            have b0 := cell_of_blk SU.out.eo 0
                            have b1 := cell_of_blk SU.out.eo 1
                            simp at a0 a1 a2 a3 a4 a5 b0 b1
                            go_upto_region 12 with fail
                            rw [← HU.out]
                            clear fw4 d4
                            have XV : Hid (kW.V (u.alloc (.cells #[.int .i64 (kd : Int), .int .i64 (ka : Int), .int .i64 (kb : Int), .string ks, .string val, .bool hh] 80)) (some ⟨u.heap.size, 0, none⟩) [⟨⟨kd, ka, kb, ks⟩, val, hh⟩]) := Lib.hid (fun _ => ⟨_, 0, rfl, RowK.new_at (heap_new u _) rfl⟩)
                            have BX := Lib.hid (below_box u (.cells #[.int .i64 (kd : Int), .int .i64 (ka : Int), .int .i64 (kb : Int), .string ks, .string val, .bool hh] 80))
                            have lB := SU.out.lt.2.2.2.2
                            go_wp2_with (at_builtin; refine RowK.wpList_app (k := kW) (B := B) (v := .slice va acc.length vc) (l := acc) rfl (.tmp 48) (.tmp 50) rfl rfl (SU.out.own.alloc _) (some ⟨u.heap.size, 0, none⟩) 1 [⟨⟨kd, ka, kb, ks⟩, val, hh⟩] 1 rfl rfl XV.out (fun e => by cases e) (by rw [HAK.out]; simp; omega) (by simp; omega) ?_; rintro v9 w9 ⟨o9, g9, k9⟩; obtain ⟨va9, vc9, hv9⟩ := o9.shape; subst hv9; have hg9 : ∀ i, i < u.heap.size → (Value.slice va acc.length vc).ownBlock ≠ some i → w9.heap[i]? = u.heap[i]? := (fun i hi hn => (g9.block i (by simp; omega) (fun e => hn e.symm)).trans (Below.heap_alloc _ _ _ hi)); have hOB : Hid (w9.heap[ob]? = some (.cells #[.int .u64 (st : Int), .slice va acc.length vc] 35)) := Lib.hid ((hg9 ob (by omega) (fun e => by have := (SU.out.own.lt _ e).1; omega)).trans SU.out.eo); have HG9 := Lib.hid hg9; have HS9 := Lib.hid g9; have O9 := Lib.hid o9; have x0 := cell_of_blk hOB.out 0; have x1 := cell_of_blk hOB.out 1; have y0 := frozen_of_blk hOB.out 0; have y1 := frozen_of_blk hOB.out 1; simp at x0 x1; have lOB := (Array.getElem?_eq_some_iff.1 hOB.out).1; clear hg9 g9 k9 o9)
                            refine ⟨⟨k + 1, acc ++ [(⟨⟨kd, ka, kb, ks⟩, val, hh⟩ : Wr)], l8, .slice va9 (acc ++ [(⟨⟨kd, ka, kb, ks⟩, val, hh⟩ : Wr)]).length vc9, by omega, by go_num, by rw [List.length_append, HAK.out]; rfl, hl8, Lib.hid ?_, Lib.hid ?_, Lib.hid ?_, ?_⟩, by simp [intOf]; omega⟩
                            · have hl1 : (acc ++ [(⟨⟨kd, ka, kb, ks⟩, val, hh⟩ : Wr)]).length = acc.length + 1 := by simp
                              have hR9 := rec_next SU.out HG9.out HS9.out O9.out
                              rw [hl1] at hR9 ⊢
                              exact hR9
                            · exact rds_next (B := B) DU.out HG9.out (fun i e => (SU.out.own.lt i e).1) (by omega) (by omega) (by omega) lB
                            · intro x hx
                              rcases List.mem_append.1 hx with hx | hx
                              · exact HOK.out x hx
                              · rw [List.mem_singleton] at hx
                                subst hx
                                exact ⟨⟨show I64 (kd : Int) from ⟨by omega, by omega⟩, show I64 (ka : Int) from ⟨by omega, by omega⟩, show I64 (kb : Int) from ⟨by omega, by omega⟩, show ks.size ≤ maxLen by rw [HKS.out]; unfold maxLen; omega⟩, show val.size ≤ maxLen by rw [HVS.out]; unfold maxLen; omega⟩
                            · rw [HQ.out]; exact HR
                          · have HN : Hid (R = none) := Lib.hid (by rw [HR.out, ho])
                            clear ho
                            go_wp2_with fail
                            exact end_panic rfl ⟨HS.out.chg.trans HC0.out (fun i _ hi => hi), .inr ⟨HN.out, rfl⟩⟩
                        · have HN : Hid (R = none) := Lib.hid (by rw [HR.out, ho])
                          clear ho
                          go_wp2_with fail
                          exact end_panic rfl ⟨HS.out.chg.trans HC0.out (fun i _ hi => hi), .inr ⟨HN.out, rfl⟩⟩
                    · have HN : Hid (R = none) := Lib.hid (by rw [HR.out, ho])
                      clear ho
                      go_wp2_with fail
                      exact end_panic rfl ⟨HS.out.chg.trans HC0.out (fun i _ hi => hi), .inr ⟨HN.out, rfl⟩⟩
                  · have HN : Hid (R = none) := Lib.hid (by rw [HR.out, ho])
                    clear ho
                    go_wp2_with fail
                    exact end_panic rfl ⟨HS.out.chg.trans HC0.out (fun i _ hi => hi), .inr ⟨HN.out, rfl⟩⟩
                · have HN : Hid (R = none) := Lib.hid (by rw [HR.out, ho])
                  clear ho
                  go_wp2_with fail
                  exact end_panic rfl ⟨HS.out.chg.trans HC0.out (fun i _ hi => hi), .inr ⟨HN.out, rfl⟩⟩
              · have HN : Hid (R = none) := Lib.hid (by rw [HR.out, ho])
                clear ho
                go_wp2_with fail
                exact end_panic rfl ⟨HS.out.chg.trans HC0.out (fun i _ hi => hi), .inr ⟨HN.out, rfl⟩⟩
            · have HN : Hid (R = none) := Lib.hid (by rw [HR.out, ho])
              clear ho
              go_wp2_with fail
              exact end_panic rfl ⟨HS.out.chg.trans HC0.out (fun i _ hi => hi), .inr ⟨HN.out, rfl⟩⟩
          · have HN : Hid (R = none) := Lib.hid (by rw [HR.out, ho])
            clear ho
            go_wp2_with fail
            exact end_panic rfl ⟨HS.out.chg.trans HC0.out (fun i _ hi => hi), .inr ⟨HN.out, rfl⟩⟩
        · obtain rfl : k = n := by omega
          have HN : Hid (R = some (⟨st, acc⟩, lr)) := Lib.hid (by rw [HR.out, Nat.sub_self]; rfl)
          obtain ⟨va, vc, hv⟩ := HS.out.own.shape
          subst hv
          have e1 := HS.out.eo
          have e2 := HS.out.eb
          have c0 := cell_of_blk e1 0
          have c1 := cell_of_blk e1 1
          have d0 := cell_of_blk e2 0
          have d1 := cell_of_blk e2 1
          have f0 := frozen_of_blk e2 0
          have f1 := frozen_of_blk e2 1
          simp at c0 c1 d0 d1
          clear e1 e2
          go_wp2_with fail
          obtain ⟨w3, hw3⟩ : ∃ w3, w3 = (wr.setCell ⟨w.heap.size, 0, none⟩ (.int .u64 (st : Int))).setCell ⟨w.heap.size, 1, none⟩ (.slice va acc.length vc) := ⟨_, rfl⟩
          obtain ⟨b3, o3, x0, x1⟩ := set2 HS.out.eb _ _ w3 hw3
          rw [← hw3]
          clear hw3 c0 c1 d0 d1 f0 f1
          refine bodyPost_ret (v := .agg #[.int .u64 (st : Int), .slice va acc.length vc]) ?_ rfl ?_
          · simp [results, Try.results90, go_sem, x0, x1]
          · have hcc := HS.out.chg
            refine ⟨⟨b3.os.trans hcc.os, b3.tape.trans hcc.tape, b3.output.trans hcc.output, Nat.le_trans hcc.size b3.size, fun i hi hn => (b3.block i hi).trans (hcc.block i hi hn)⟩, .inl ⟨⟨st, acc⟩, lr, _, HN.out, rfl, ?_, ?_, HOK.out, HMST.out, by show acc.length < 65536; rw [HAK.out]; omega⟩⟩
            · exact HD.out.of (o3 _ (by omega)) (fun i hi _ => o3 i (by omega))
            · exact ownsRow_of_block (HS.out.own.mono (by omega)) (fun j hj => o3 j (by have := (HS.out.own.lt j hj).1; omega))
    · have HN : Hid (R = none) := Lib.hid (by rw [HR.out, ho])
      clear ho
      go_wp2_with fail
      exact end_panic rfl ⟨HS.out.chg, .inr ⟨HN.out, rfl⟩⟩
  · have HN : Hid (R = none) := Lib.hid (by rw [HR.out, ho])
    clear ho
    go_wp2_with fail
    exact end_panic rfl ⟨chg_below (Chg.refl w _) HBW.out |>.trans HC.out (fun i _ hi => hi), .inr ⟨HN.out, rfl⟩⟩
end Go.Proofs.Ytcghgnncmnoalaa
