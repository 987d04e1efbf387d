/- The reader of package redo: text, number. Conditions: each contract's own premises. -/
import Derived.Test.YtcghgnncmnoalaaRdB
import Derived.Defers
import Derived.Recover
namespace Go.Proofs.Ytcghgnncmnoalaa
open Go.RowKit Go.Maps

/-- a reader and what it has left -/
structure RdS (w : World) (rb D : Nat) (l : List UInt8) : Prop where
  ex : ∃ a cap, w.heap[rb]? = some (.cells #[.slice a l.length cap] 141) ∧ l.length ≤ cap ∧ BsV w a l ∧ ((a = none ∧ cap = 0) ∨ ∃ b off, a = some ⟨b, off, none⟩ ∧ b ≠ rb ∧ b < D)
/-- what breaks a reading off -/
def shortP : List PanicEntry := [{ v := .iface 138 (.agg #[]), recovered := false }]
theorem RdS.lt {w : World} {rb D : Nat} {l : List UInt8} (h : RdS w rb D l) : rb < w.heap.size := by
  obtain ⟨a, cap, h1, _⟩ := h.ex
  exact (Array.getElem?_eq_some_iff.1 h1).1
/-- what reading leaves -/
def RdTo (w : World) (rb D : Nat) (l : List UInt8) (w' : World) : Prop := RdS w' rb D l ∧ Chg w w' (· = rb)
/-- a reading that may break off: what it hands back, and what is left -/
def RdPost (w : World) (rb D : Nat) (o : Option (Value × List UInt8)) (e : Ending) (w' : World) : Prop :=
  Chg w w' (· = rb) ∧ ((∃ v l, o = some (v, l) ∧ e = .returned v ∧ RdS w' rb D l) ∨ (o = none ∧ e = .panicked shortP))
theorem chg_set {w : World} {rb : Nat} (v : Value) : Chg w (w.setCell ⟨rb, 0, none⟩ v) (· = rb) := (Chg.refl w (· = rb)).setCell (p := ⟨rb, 0, none⟩) (fun _ => rfl) v
theorem BsV.chg {w w' : World} {a : Option Addr} {l : List UInt8} {rb : Nat} (h : BsV w a l) (hc : Chg w w' (· = rb)) (hn : ∀ b off, a = some ⟨b, off, none⟩ → b ≠ rb) : BsV w' a l := fun hne => by
  obtain ⟨b, off, e, hat⟩ := h hne
  exact ⟨b, off, e, hat.of_block (hc.block b hat.lt (hn b off e))⟩
theorem end_panic {P : Program} {F : Func} {R : Ending → World → Prop} {c : List PanicEntry} {a : Act} {w : World} (hd : a.defers = []) (h : R (.panicked c) w) : bodyPost P F R (.panic c) a w := ⟨hd, h⟩
theorem rd_set {w : World} {rb D cap : Nat} {a : Option Addr} {l' : List UInt8} {v : Value} (h : w.heap[rb]? = some (.cells #[v] 141)) (hl : l'.length ≤ cap) (hv : BsV w a l') (ha : (a = none ∧ cap = 0) ∨ ∃ b off, a = some ⟨b, off, none⟩ ∧ b ≠ rb ∧ b < D) :
    RdTo w rb D l' (w.setCell ⟨rb, 0, none⟩ (.slice a l'.length cap)) := by
  have hc := chg_set (w := w) (rb := rb) (.slice a l'.length cap)
  refine ⟨⟨a, cap, ?_, hl, hv.chg hc ?_, ?_⟩, hc⟩
  · rw [blk_setCell h]; rfl
  · intro b off e
    rcases ha with ⟨e2, _⟩ | ⟨b', off', e2, hne, _⟩
    · rw [e2] at e; cases e
    · rw [e2] at e; injection e with e; injection e with e; rw [← e]; exact hne
  · rcases ha with h1 | ⟨b', off', e2, hne, hl⟩
    · exact .inl h1
    · exact .inr ⟨b', off', e2, hne, hl⟩
def txO (l : List UInt8) (n : Nat) : Option (Value × List UInt8) := if n ≤ l.length then some (.string ⟨(l.take n).toArray⟩, l.drop n) else none
theorem conv_nil (w : World) : (convert 22 9 (.slice none 0 0)).run Try.prog w = .ok (.string ⟨#[]⟩) w := by kernel_rfl
set_option maxRecDepth 100000 in
set_option maxHeartbeats 1000000 in
theorem text_any (rb D : Nat) (l : List UInt8) (n : Nat) (w : World) (h : RdS w rb D l) (hl : l.length ≤ 3000000) (hn : n ≤ 3000000) :
    Calls Try.prog 130 #[.pointer (some ⟨rb, 0, none⟩), .int .i64 n] w (RdPost w rb D (txO l n)) := by
  obtain ⟨a, cap, hb, hcap, hv, ha⟩ := h.ex
  have hlt := h.lt
  have c0 := cell_of_blk hb 0
  have f0 := frozen_of_blk hb 0
  simp at c0
  have HB := Lib.hid hb
  by_cases hs : l.length < n
  · have HO : Hid (txO l n = none) := Lib.hid (if_neg (by omega))
    clear hb h ha hv
    go_enter Try.func130, Try.ntmps130
    go_wp2_with fail
    exact end_panic rfl ⟨Chg.refl _ _, .inr ⟨HO.out, rfl⟩⟩
  · have hle : n ≤ l.length := by omega
    have HO : Hid (txO l n = some (.string ⟨(l.take n).toArray⟩, l.drop n)) := Lib.hid (if_pos hle)
    have HV := Lib.hid hv
    have HLD : Hid ((l.drop n).length = l.length - n) := Lib.hid (by simp)
    rcases ha with ⟨rfl, rfl⟩ | ⟨b, off, rfl, hne, hbl⟩
    · have hl0 : l = [] := List.eq_nil_of_length_eq_zero (by omega)
      subst hl0
      obtain rfl : n = 0 := by simpa using hle
      have hcv := conv_nil
      have HT : Hid (RdTo w rb D [] (w.setCell ⟨rb, 0, none⟩ (.slice none 0 0))) := Lib.hid (rd_set (l' := []) hb (by simp) (fun e => absurd rfl e) (.inl ⟨rfl, rfl⟩))
      clear hb h hv
      go_enter Try.func130, Try.ntmps130
      go_wp2_with fail
      go_ret
      exact ⟨HT.out.2, .inl ⟨_, [], HO.out, rfl, HT.out.1⟩⟩
    · have hnc : n ≤ cap := by omega
      have HTK : Hid (n = (l.take n).length) := Lib.hid (by simp; omega)
      have HAT : Hid (∀ j (hj : j < (l.take n).length), w.cell? ((⟨b, off, none⟩ : Addr).add j) = some (.int .u8 ((l.take n)[j].toNat : Int))) := Lib.hid (by
        by_cases hl0 : l = []
        · intro j hj; rw [hl0] at hj; simp at hj
        · obtain ⟨b', off', e, hat⟩ := hv hl0
          injection e with e
          injection e with e1 e2
          subst e1 e2
          exact (hat.take n).conv)
      by_cases hcn : cap = n
      · have HT : Hid (RdTo w rb D (l.drop n) (w.setCell ⟨rb, 0, none⟩ (.slice (some ⟨b, off, none⟩) 0 0))) := Lib.hid (by
          have h0 : (l.drop n).length = 0 := by rw [HLD.out]; omega
          have := rd_set (l' := l.drop n) (cap := 0) (a := some ⟨b, off, none⟩) hb (by omega) (fun e => absurd (List.eq_nil_of_length_eq_zero h0) e) (.inr ⟨b, off, rfl, hne, hbl⟩)
          rw [h0] at this
          exact this)
        subst hcn
        have hsub : cap - cap = 0 := Nat.sub_self _
        clear hb h hv
        go_enter Try.func130, Try.ntmps130
        go_wp2_with (refine wpList_toStr _ rfl (.tmp 20) rfl ⟨b, off, none⟩ cap cap (l.take cap) rfl HTK.out HAT.out ?_)
        go_ret
        exact ⟨HT.out.2, .inl ⟨_, _, HO.out, rfl, HT.out.1⟩⟩
      · have HT : Hid (RdTo w rb D (l.drop n) (w.setCell ⟨rb, 0, none⟩ (.slice (some ⟨b, off + n, none⟩) (l.length - n) (cap - n)))) := Lib.hid (by
          rw [← HLD.out]
          refine rd_set hb (by rw [HLD.out]; omega) (fun e => ?_) (.inr ⟨b, off + n, rfl, hne, hbl⟩)
          obtain ⟨b', off', e, hat⟩ := hv (fun e2 => by rw [e2] at e; simp at e)
          injection e with e
          injection e with e1 e2
          subst e1 e2
          exact ⟨b, off + n, rfl, hat.drop n⟩)
        clear hb h hv
        go_enter Try.func130, Try.ntmps130
        go_wp2_with (refine wpList_toStr _ rfl (.tmp 20) rfl ⟨b, off, none⟩ n cap (l.take n) rfl HTK.out HAT.out ?_)
        go_ret
        exact ⟨HT.out.2, .inl ⟨_, _, HO.out, rfl, HT.out.1⟩⟩
/-- a number of so many bytes -/
def nuO (l : List UInt8) (n : Nat) : Option (Value × List UInt8) := if n ≤ l.length then some (.int .u64 (numL (l.take n) : Nat), l.drop n) else none
theorem RdS.below {w w' : World} {rb D : Nat} {l : List UInt8} (h : RdS w rb D l) (hb : Below w.heap.size w w') : RdS w' rb D l := by
  obtain ⟨a, cap, h1, h2, h3, h4⟩ := h.ex
  refine ⟨a, cap, (hb.block _ h.lt).trans h1, h2, h3.below hb, ?_⟩
  rcases h4 with h4 | ⟨b, off, e, hne, hl⟩
  · exact .inl h4
  · exact .inr ⟨b, off, e, hne, hl⟩
theorem chg_below {w w1 w2 : World} {S : Nat → Prop} (h : Chg w w1 S) (k : Below w1.heap.size w1 w2) : Chg w w2 S :=
  ⟨k.os.trans h.os, k.tape.trans h.tape, k.output.trans h.output, Nat.le_trans h.size k.size, fun i hi hn => (k.block i (Nat.lt_of_lt_of_le hi h.size)).trans (h.block i hi hn)⟩
theorem u64_or_byte (a b : Nat) (ha : a < 72057594037927936) (hb : b < 256) : bits .or .u64 ((a : Int) * 256) (b : Int) = (a : Int) * 256 + b := by
  have := u64_or_nat (a * 256) b (by omega) (by omega)
  rw [nat_join 8 _ _ (by omega) (by show _ < 256; omega)] at this
  simpa using this
theorem numL_small {l : List UInt8} {k : Nat} (hk : k ≤ l.length) (h7 : k ≤ 7) : numL (l.take k) < 72057594037927936 :=
  Nat.lt_of_lt_of_le (numL_take l k hk) (Nat.le_trans (Nat.pow_le_pow_right (by omega) h7) (by decide))
set_option maxRecDepth 100000 in
set_option maxHeartbeats 1000000 in
theorem number_any (rb D : Nat) (l : List UInt8) (n : Nat) (w : World) (h : RdS w rb D l) (hl : l.length ≤ 3000000) (hn : n ≤ 8) :
    Calls Try.prog 91 #[.pointer (some ⟨rb, 0, none⟩), .int .i64 n] w (RdPost w rb D (nuO l n)) := by
  have HH := Lib.hid h
  clear h
  go_enter Try.func91, Try.ntmps91
  go_wp2_with fail
  refine (text_any rb D l n _ HH.out hl (by omega)).mono ?_
  rintro e w1 ⟨hc, ⟨v, l', ho, rfl, hr⟩ | ⟨ho, rfl⟩⟩
  · unfold txO at ho
    by_cases hle : n ≤ l.length
    · rw [if_pos hle] at ho
      injection ho with ho
      injection ho with h1 h2
      subst h1 h2
      have HO : Hid (nuO l n = some (.int .u64 (numL (l.take n) : Nat), l.drop n)) := Lib.hid (if_pos hle)
      have HC := Lib.hid hc
      have HR := Lib.hid hr
      obtain ⟨m, hm⟩ : ∃ m, l.take n = m := ⟨_, rfl⟩
      have hml : m.length = n := by rw [← hm]; simp; omega
      rw [hm] at HO ⊢
      have HML : Hid ((⟨m.toArray⟩ : ByteArray).size = n) := Lib.hid hml
      have HD : Hid ((⟨m.toArray⟩ : ByteArray).data.toList = m) := Lib.hid rfl
      clear hc hr hle hm
      go_wp2_with (refine wpList_toBytes _ rfl (.tmp 10) rfl ⟨m.toArray⟩ rfl ?_; intro w2 cap hb2 bel z2 hcap)
      replace hb2 : BsAt w2 w1.heap.size 0 m := hb2
      have HB2 := Lib.hid bel
      clear z2 hcap bel
      go_loopw [5, 13] (fun s i wr => ∃ k : Nat, k ≤ n ∧ i = .int .i64 k ∧ s = .int .u64 (numL (m.take k) : Nat) ∧ w2 = wr) (fun _ i _ => n - (intOf i).toNat)
      case atStart => exact ⟨0, by omega, rfl, rfl, rfl⟩
      case round =>
        obtain ⟨k, hk, rfl, rfl, rfl⟩ := hrel
        by_cases hlt : k < n
        · have hkm : k < m.length := by omega
          have c1 := hb2.cells k m[k] (List.getElem?_eq_getElem hkm)
          unfold bv at c1
          rw [Nat.zero_add] at c1
          have HS := Lib.hid (numL_snoc hkm)
          have hs := numL_small (l := m) (k := k) (by omega) (by omega)
          obtain ⟨s, hse⟩ : ∃ s, numL (m.take k) = s := ⟨_, rfl⟩
          have hx := m[k].toNat_lt
          obtain ⟨x, hxe⟩ : ∃ x, m[k].toNat = x := ⟨_, rfl⟩
          rw [hxe] at c1 HS hx
          rw [hse] at hs HS ⊢
          have e1 := u64_or_byte s x hs hx
          have HB := Lib.hid hb2
          clear hse hxe hb2
          go_wp2_with fail
          exact ⟨⟨k + 1, by omega, by go_num, by rw [HS.out]; simp, trivial⟩, by simp [intOf]; omega⟩
        · obtain rfl : k = n := by omega
          have HTK : Hid (numL (m.take k) = numL m) := Lib.hid (by rw [← hml, List.take_length])
          have HB := Lib.hid hb2
          clear hb2
          go_wp2_with fail
          go_ret
          exact ⟨chg_below HC.out HB2.out, .inl ⟨_, _, HO.out, by rw [HTK.out]; rfl, HR.out.below HB2.out⟩⟩
    · rw [if_neg hle] at ho; cases ho
  · have HO : Hid (nuO l n = none) := Lib.hid (by
      unfold txO at ho
      unfold nuO
      split at ho
      · cases ho
      · rename_i hh; exact if_neg hh)
    have HC := Lib.hid hc
    clear hc ho
    go_wp2_with fail
    exact end_panic rfl ⟨HC.out, .inr ⟨HO.out, rfl⟩⟩
end Go.Proofs.Ytcghgnncmnoalaa
