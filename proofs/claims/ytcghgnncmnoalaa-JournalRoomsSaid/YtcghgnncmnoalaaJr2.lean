/- JournalRooms: what is owed. Conditions: each lemma's own premises. -/
import Derived.Test.YtcghgnncmnoalaaJr1
import Derived.Test.YtcghgnncmnoalaaBackPlain
namespace Go.Proofs.Ytcghgnncmnoalaa
open Go.RowKit Go.Maps

theorem wpList_appOff {ops : Array Oper} {rest : List Oper} {o : Oper} {act : Act} {w : World} {Q : Exit → Act → World → Prop} {B n cap : Nat} {a : Option Addr} {l : List Rv} (hgd : o.guard = none) (s y : Operand)
    (ho : o.op = .call { callee := .builtin .append, args := #[s, y], argTypes := #[24, 24] }) (hs : act.eval s = .slice a n cap) (h : OffR w B a n cap l) (xb : Nat) (x : Rv) (hy : act.eval y = .slice (some ⟨xb, 0, none⟩) 1 1)
    (hx : w.heap[xb]? = some (.cells #[.int .u64 x.stamp, .slice x.a x.ws.length x.cap] 35)) (hl : l.length ≤ 4000) (hB : B ≤ w.heap.size)
    (hK : ∀ a' cap' w', OffR w' B a' (n + 1) cap' (l ++ [x]) → Chg w w' (fun j => a.isSome ∧ (∃ cs, w.heap[j]? = some (.cells cs 35 (0, 0))) ∧ B ≤ j) → wpList Try.prog ops Q rest (act.put o.dst (.slice a' (n + 1) cap')) w') : wpList Try.prog ops Q (o :: rest) act w := by
  refine wpList_plain hgd fun K' hK' => ?_
  obtain ⟨a', cap', w', hr, h1, h2⟩ := run_appOff o.type h xb x hx hl hB
  unfold Oper.wp execOp
  simp only [ho, resolve, invoke, builtin, Sem.run_bind, Sem.run_pure, Result.andThen_ok, List.map_toArray, List.map_cons, List.map_nil, hs, hy, hr]
  exact hK' _ _ (hK a' cap' w' h1 h2)
/-- how many bytes records take -/
def sumP (l : List Rv) : Nat := (l.map (fun x => (packL 1 (bodyL x.stamp x.ws)).length)).sum
theorem sumP_cons (x : Rv) (l : List Rv) : sumP (x :: l) = (packL 1 (bodyL x.stamp x.ws)).length + sumP l := by simp [sumP]
theorem sumP_snoc (l : List Rv) (x : Rv) : sumP (l ++ [x]) = sumP l + (packL 1 (bodyL x.stamp x.ws)).length := by simp [sumP]
/-- a record that is owed -/
structure Owed (w : World) (x : Rv) : Prop where
  st : x.stamp ≠ 0
  sb : x.stamp < 18446744073709551616
  ws : WsV w x.a x.ws
  sm : smallW 10 200 x.ws = true
  ok : Rc.wrong ⟨x.stamp, x.ws⟩ = false
/-- the journal and what is owed -/
structure RmI (w wr : World) (jb db n : Nat) (prom last : Int) (l : List UInt8) (ms : List (Int × Int)) (a : Option Addr) (on cap : Nat) (ow td : List Rv) : Prop where
  s : JS wr jb db n 0 prom last w.heap.size l ms
  b : Below w.heap.size w wr
  o : OffR wr w.heap.size a on cap ow
  ok : ∀ x ∈ ow, Owed w x
  p0 : 0 ≤ prom
  sum : (sumP td : Int) ≤ prom
  fit : l.length ≤ n ∧ (prom = 0 ∨ (l.length : Int) + prom + 14 ≤ n)
  jB : w.heap.size ≤ jb
  dB : w.heap.size ≤ db
theorem JS.noRec {w : World} {jb db n safe B j : Nat} {prom last : Int} {l : List UInt8} {ms : List (Int × Int)} {cs : Array Value} (h : JS w jb db n safe prom last B l ms) (hc : w.heap[j]? = some (.cells cs 35)) (hj : j = jb ∨ j = db ∨ dob w db = some j ∨ job w jb = some j) : False := by
  obtain ⟨_, _, ej, _⟩ := h.j
  obtain ⟨_, _, ed, _⟩ := h.d.ex
  rcases hj with hj | hj | hj | hj
  · rw [hj, ej] at hc
    injection hc with hc
    injection hc with _ hc
    exact absurd hc (by decide)
  · rw [hj, ed] at hc
    injection hc with hc
    injection hc with _ hc
    exact absurd hc (by decide)
  · obtain ⟨c2, q⟩ := h.d.obt hj
    rw [q] at hc
    injection hc with hc
    injection hc with _ hc
    exact absurd hc (by decide)
  · obtain ⟨c2, q⟩ := h.j.obt hj
    rw [q] at hc
    injection hc with hc
    injection hc with _ hc
    exact absurd hc (by decide)
namespace RmI
variable {w wr : World} {jb db n on cap : Nat} {prom last : Int} {l : List UInt8} {ms : List (Int × Int)} {a : Option Addr} {ow td : List Rv}
theorem below {w' : World} (h : RmI w wr jb db n prom last l ms a on cap ow td) (hb : Below wr.heap.size wr w') : RmI w w' jb db n prom last l ms a on cap ow td :=
  ⟨h.s.below hb, below_then h.b hb, h.o.below hb, h.ok, h.p0, h.sum, h.fit, h.jB, h.dB⟩
/-- the journal turned -/
theorem turn {w' : World} (h : RmI w wr jb db n prom last l ms a on cap ow td) {prom' last' : Int} {l' : List UInt8} {ms' : List (Int × Int)} (hs : JS w' jb db n 0 prom' last' w.heap.size l' ms') (hc : Chg wr w' (fun j => j = jb ∨ j = db ∨ dob wr db = some j ∨ job wr jb = some j))
    (h0 : 0 ≤ prom') {td' : List Rv} (hsum : (sumP td' : Int) ≤ prom') (hf : l'.length ≤ n ∧ (prom' = 0 ∨ (l'.length : Int) + prom' + 14 ≤ n)) : RmI w w' jb db n prom' last' l' ms' a on cap ow td' :=
  ⟨hs, h.b.trans (hc.below h.b.size (fun _ hi => h.s.ge h.jB h.dB hi)), h.o.chg hc (fun _ _ hj _ hs => h.s.noRec hj hs), h.ok, h0, hsum, hf, h.jB, h.dB⟩
/-- one more is owed -/
theorem owe {w' : World} (h : RmI w wr jb db n prom last l ms a on cap ow td) {a' : Option Addr} {cap' : Nat} {x : Rv} (ho : OffR w' w.heap.size a' (on + 1) cap' (ow ++ [x])) (hc : Chg wr w' (fun j => a.isSome ∧ (∃ cs, wr.heap[j]? = some (.cells cs 35 (0, 0))) ∧ w.heap.size ≤ j))
    (hx : Owed w x) (hsum : ((sumP ow + (packL 1 (bodyL x.stamp x.ws)).length : Nat) : Int) ≤ prom) : RmI w w' jb db n prom last l ms a' (on + 1) cap' (ow ++ [x]) (ow ++ [x]) := by
  refine ⟨h.s.chg hc (fun e => ?_) (fun e => ?_) (fun j hj e => ?_) (fun j hj e => ?_), h.b.trans (hc.below h.b.size (fun i hi => hi.2.2)), ho, fun y hy => ?_, h.p0, by rw [sumP_snoc]; exact hsum, h.fit, h.jB, h.dB⟩
  · obtain ⟨_, ⟨cs, q⟩, _⟩ := e
    exact h.s.noRec q (.inr (.inl rfl))
  · obtain ⟨_, ⟨cs, q⟩, _⟩ := e
    exact h.s.noRec q (.inl rfl)
  · obtain ⟨_, ⟨cs, q⟩, _⟩ := e
    exact h.s.noRec q (.inr (.inr (.inl hj)))
  · obtain ⟨_, ⟨cs, q⟩, _⟩ := e
    exact h.s.noRec q (.inr (.inr (.inr hj)))
  · rcases List.mem_append.1 hy with hy | hy
    · exact h.ok y hy
    · obtain rfl : y = x := by simpa using hy
      exact hx
/-- the first is paid -/
theorem pay {x : Rv} (h : RmI w wr jb db n prom last l ms a on cap (x :: ow) td) : RmI w wr jb db n prom last l ms (sfxR a cap 1) (on - 1) (cap - 1) ow td :=
  ⟨h.s, h.b, h.o.tail, fun y hy => h.ok y (List.mem_cons_of_mem _ hy), h.p0, h.sum, h.fit, h.jB, h.dB⟩
theorem prom2 (h : RmI w wr jb db n prom last l ms a on cap ow td) (hn : n ≤ 1000) : prom ≤ 1000 ∧ l.length ≤ 1000 := by
  have := h.fit.1
  refine ⟨?_, by omega⟩
  rcases h.fit.2 with e | e <;> omega
end RmI
/-- what a promise says -/
theorem promR_rm {n len : Nat} {prom : Int} {r : Rc} {q1 q2 q3 : Int} (h : promR n len prom r = (q1, q2, q3)) (_ : 0 ≤ prom) (hf : len ≤ n ∧ (prom = 0 ∨ (len : Int) + prom + 14 ≤ n)) :
    prom ≤ q3 ∧ (len ≤ n ∧ (q3 = 0 ∨ (len : Int) + q3 + 14 ≤ n)) ∧ (q2 = 0 → r.wrong = false ∧ q3 = prom + ((packL 1 (bodyL r.stamp r.ws)).length : Nat)) := by
  unfold promR at h
  split at h
  · simp only [Prod.mk.injEq] at h
    obtain ⟨_, rfl, rfl⟩ := h
    exact ⟨by omega, hf, fun e => absurd e (by decide)⟩
  split at h
  · simp only [Prod.mk.injEq] at h
    obtain ⟨_, rfl, rfl⟩ := h
    exact ⟨by omega, hf, fun e => absurd e (by decide)⟩
  · rename_i h1 h2
    simp only [Prod.mk.injEq] at h
    obtain ⟨_, rfl, rfl⟩ := h
    exact ⟨by omega, ⟨hf.1, .inr (by omega)⟩, fun _ => ⟨by simpa using h1, rfl⟩⟩
/-- what is owed is laid -/
theorem appR_rm {n len : Nat} {prom : Int} {x : Rv} {s : Nat} (hw : Rc.wrong ⟨x.stamp, x.ws⟩ = false) (hs : (((packL 1 (bodyL x.stamp x.ws)).length + s : Nat) : Int) ≤ prom) (hf : len ≤ n ∧ (prom = 0 ∨ (len : Int) + prom + 14 ≤ n)) :
    appR n len prom ⟨x.stamp, x.ws⟩ = (0, prom - ((packL 1 (bodyL x.stamp x.ws)).length : Nat), packL 1 (bodyL x.stamp x.ws)) ∧ 0 ≤ prom - ((packL 1 (bodyL x.stamp x.ws)).length : Nat) ∧ (s : Int) ≤ prom - ((packL 1 (bodyL x.stamp x.ws)).length : Nat) ∧
    (len + (packL 1 (bodyL x.stamp x.ws)).length ≤ n ∧ (prom - ((packL 1 (bodyL x.stamp x.ws)).length : Nat) = 0 ∨ ((len + (packL 1 (bodyL x.stamp x.ws)).length : Nat) : Int) + (prom - ((packL 1 (bodyL x.stamp x.ws)).length : Nat)) + 14 ≤ n)) := by
  obtain ⟨p, hp⟩ : ∃ p, p = packL 1 (bodyL x.stamp x.ws) := ⟨_, rfl⟩
  have hp0 : p.length ≠ 0 := by rw [hp, pack_len]; omega
  rw [← hp] at hs ⊢
  have hfit : len + p.length ≤ n := by rcases hf.2 with e | e <;> omega
  refine ⟨?_, by omega, by omega, hfit, by rcases hf.2 with e | e; left; omega; right; omega⟩
  unfold appR
  rw [if_neg (by rw [hw]; decide)]
  simp only [← hp]
  rw [if_neg (by omega), if_pos hfit]
theorem mkE_rm {n len : Nat} {prom last k : Int} (h : mkE n len prom last k = 0) (h0 : 0 ≤ prom) : len + 14 ≤ n ∧ (prom = 0 ∨ ((len + 14 : Nat) : Int) + prom + 14 ≤ n) := by
  unfold mkE at h
  split at h
  · exact absurd h (by decide)
  split at h
  · exact absurd h (by decide)
  split at h
  · exact absurd h (by decide)
  · exact ⟨by omega, .inr (by omega)⟩
theorem turnR (c : Nat) (hc : 0 < c) (hc2 : c ≤ 100000) (x : Int) : ∃ k : Nat, (wrap64 (x.tmod c + c)).tmod c = k ∧ k < c := by
  have h1 : x.tmod c < c := Int.tmod_lt_of_pos x (by omega)
  have h2 : -(c : Int) < x.tmod c := by
    have := Int.tmod_lt_of_pos (-x) (show (0 : Int) < (c : Int) by omega)
    rw [Int.neg_tmod] at this
    omega
  obtain ⟨t, ht⟩ : ∃ t, x.tmod c = t := ⟨_, rfl⟩
  rw [ht] at h1 h2 ⊢
  have e1 : wrap64 (t + c) = t + c := by unfold wrap64; omega
  rw [e1, Int.tmod_eq_emod_of_nonneg (by omega)]
  have h3 : 0 ≤ (t + c) % (c : Int) := Int.emod_nonneg _ (by omega)
  have h4 : (t + c) % (c : Int) < (c : Int) := Int.emod_lt_of_pos _ (by omega)
  obtain ⟨k, hk⟩ := Int.eq_ofNat_of_zero_le h3
  exact ⟨k, by rw [hk], by omega⟩
theorem small_two {st : Nat} {ws : List Wr} (h : smallW 10 200 ws = true) : ws.length ≤ 10 ∧ (bodyL st ws).length ≤ 12330 := by
  have h2 : smallW 20 300 ws = true := by
    unfold smallW at h ⊢
    simp only [Bool.and_eq_true, decide_eq_true_eq, List.all_eq_true] at h ⊢
    exact ⟨by omega, fun x hx => ⟨by have := (h.2 x hx).1; omega, by have := (h.2 x hx).2; omega⟩⟩
  refine ⟨?_, (small_body2 h2).2⟩
  unfold smallW at h
  simp only [Bool.and_eq_true, decide_eq_true_eq] at h
  exact h.1
end Go.Proofs.Ytcghgnncmnoalaa
