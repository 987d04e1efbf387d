/- The journal beside the reference: the plain law; Flush. Conditions: each contract's own premises. The journal beside the reference: both in memory. Conditions: each lemma's own premises. The law's own function 'does' of layer 15: Promise, Forget, Flush, nothing. Conditions: each contract's own premises. The law's own function 'does' of layer 15: Append, Mark. Conditions: each contract's own premises. -/
import Derived.Test.YtcghgnncmnoalaaJaA
import Derived.Test.YtcghgnncmnoalaaBackPlain
import Derived.Deep.RegionHeld3
namespace Go.Proofs.Ytcghgnncmnoalaa
open Go.RowKit Go.Maps

theorem dkFlush2_any {w : World} {db room safe B : Nat} {l : List UInt8} (h : DkS w db room safe B l) : Calls Try.prog 109 #[.pointer (some ⟨db, 0, none⟩)] w (fun e w' => DkPost w db room l.length B l l.length e w' ∧ DFr w w' db) := by
  obtain ⟨a, cap, h1, h2, h3⟩ := h.ex
  have c1 := cell_of_blk h1 1
  have c2 := cell_of_blk h1 2
  have f1 := frozen_of_blk h1 1
  simp at c1 c2
  have HC : Hid (Chg w (w.setCell ⟨db, 1, none⟩ (.int .i64 l.length)) (fun j => j = db)) := Lib.hid ((Chg.refl w (fun j => j = db)).setCell (p := ⟨db, 1, none⟩) (fun _ => rfl) _)
  have HF : Hid (DFr w (w.setCell ⟨db, 1, none⟩ (.int .i64 l.length)) db) := Lib.hid (.inl (by
    rw [dob_eq h1, dob_eq (show (w.setCell ⟨db, 1, none⟩ (.int .i64 l.length)).heap[db]? = _ by rw [blk_setCell h1]; rfl)]))
  have HD : Hid (DkS (w.setCell ⟨db, 1, none⟩ (.int .i64 l.length)) db room l.length B l) := Lib.hid (by
    have := h.cut (k := l.length) (s := l.length) h1 h2 h3 (Nat.le_refl _) (Nat.le_refl _) HC.out (by rw [blk_setCell h1]; rfl)
    rw [List.take_length] at this
    exact this)
  obtain ⟨n, hn⟩ : ∃ n, n = l.length := ⟨_, rfl⟩
  rw [← hn] at c2 HC HD HF ⊢
  clear h h1 h2 h3 hn
  go_enter Try.func109, Try.ntmps109
  go_wp2_with fail
  go_ret
  exact ⟨⟨rfl, HD.out, HC.out⟩, HF.out⟩
def JFlush2Post (w : World) (jb db room : Nat) (prom last : Int) (B : Nat) (l : List UInt8) (ms : List (Int × Int)) (e : Ending) (w' : World) : Prop :=
  JFlushPost w jb db room prom last B l ms e w' ∧ DFr w w' db
theorem jFlush2_any {w : World} {jb db room safe B : Nat} {prom last : Int} {l : List UInt8} {ms : List (Int × Int)} (h : JS w jb db room safe prom last B l ms) (hms : ms.length ≤ 1000000) : Calls Try.prog 62 #[.pointer (some ⟨jb, 0, none⟩)] w (JFlush2Post w jb db room prom last B l ms) := by
  obtain ⟨a, cap, h1, _⟩ := h.j
  have c0 := cell_of_blk h1 0
  simp at c0
  have HS := Lib.hid h
  clear h h1
  go_enter Try.func62, Try.ntmps62
  go_wp2_with fail
  refine (dkFlush2_any HS.out.d).mono ?_
  rintro e w1 ⟨⟨rfl, d1, g1⟩, r1⟩
  have HJ := Lib.hid (HS.out.disk1 d1 g1)
  have HG := Lib.hid g1
  have HR := Lib.hid r1
  clear d1 g1 r1
  go_wp2_with fail
  refine (jSure_any HJ.out.j HJ.out.d hms).mono ?_
  rintro e w2 ⟨rfl, b2⟩
  have HB2 := Lib.hid b2
  clear b2
  go_wp2_with fail
  go_ret
  exact ⟨⟨rfl, HJ.out.below HB2.out, HG.out.trans (Chg.of_below HB2.out _) (fun _ _ h => h)⟩, HR.out.trans (DFr.below HJ.out.d HB2.out) HG.out.size⟩
/-- marks of pieces that lie behind T bytes -/
def mks : Nat → List Pc → List (Int × Int)
  | _, [] => []
  | T, p :: ps => if 0 ≤ p.ep then (p.ep, ((T + p.l.length : Nat) : Int)) :: mks (T + p.l.length) ps else mks (T + p.l.length) ps
theorem mks_snoc : ∀ (T : Nat) (ps : List Pc) (p : Pc), mks T (ps ++ [p]) = mks T ps ++ (if 0 ≤ p.ep then [(p.ep, ((T + pcN ps + p.l.length : Nat) : Int))] else [])
  | T, [], p => by simp [mks, pcN]
  | T, q :: ps, p => by
    have h := mks_snoc (T + q.l.length) ps p
    have e : T + q.l.length + pcN ps = T + pcN (q :: ps) := by simp [pcN]; omega
    rw [e] at h
    simp only [List.cons_append, mks]
    rw [h]
    split <;> simp
theorem mks_len : ∀ (T : Nat) (ps : List Pc), (mks T ps).length ≤ ps.length
  | _, [] => Nat.le_refl _
  | T, p :: ps => by
    have := mks_len (T + p.l.length) ps
    simp only [mks]
    split <;> simp <;> omega
theorem mks_none : ∀ (ps : List Pc) (T safe : Nat) (s : Int), safe ≤ T → (∀ p ∈ ps, 0 ≤ p.ep → 0 < p.l.length) → sureOf safe s (mks T ps) = s
  | [], _, _, _, _, _ => rfl
  | p :: ps, T, safe, s, h, hp => by
    have ih := mks_none ps (T + p.l.length) safe s (by omega) (fun q hq => hp q (List.mem_cons_of_mem _ hq))
    simp only [mks]
    split
    · rename_i h0
      have := hp p (List.mem_cons_self ..) h0
      show sureOf safe (if ((T + p.l.length : Nat) : Int) ≤ (safe : Int) then p.ep else s) _ = s
      rw [if_neg (by omega)]
      exact ih
    · exact ih
theorem mks_sure : ∀ (ps : List Pc) (T sf : Nat) (s : Int), (∀ p ∈ ps, 0 ≤ p.ep → 0 < p.l.length) → sureOf ((T + pcN (ps.take sf) : Nat) : Int) s (mks T ps) = pcS s (ps.take sf)
  | ps, T, 0, s, hp => by
    rw [mks_none ps T _ s (by simp [pcN]) hp]
    simp [pcS]
  | [], T, sf + 1, s, _ => by simp [mks, sureOf, pcS]
  | p :: ps, T, sf + 1, s, hp => by
    have e : T + pcN ((p :: ps).take (sf + 1)) = (T + p.l.length) + pcN (ps.take sf) := by simp [pcN]; omega
    rw [e]
    have ih := fun s => mks_sure ps (T + p.l.length) sf s (fun q hq => hp q (List.mem_cons_of_mem _ hq))
    simp only [mks]
    split
    · rename_i h0
      show sureOf _ (if ((T + p.l.length : Nat) : Int) ≤ _ then p.ep else s) _ = _
      rw [if_pos (by omega), ih]
      simp [pcS, h0]
    · rename_i h0
      rw [ih]
      simp [pcS, h0]
/-- the journal and the reference tell the same -/
structure PJ (n : Nat) (T : List UInt8) (found prom : Int) (ps : List Pc) (sf safe : Nat) (l : List UInt8) (ms : List (Int × Int)) : Prop where
  lE : l = T ++ pcB ps
  msE : ms = (found, (T.length : Int)) :: mks T.length ps
  sfE : safe = T.length + pcN (ps.take sf)
  p0 : 0 ≤ prom
  fit : l.length ≤ n ∧ (prom = 0 ∨ (l.length : Int) + prom + 14 ≤ n)
  pos : ∀ p ∈ ps, 0 ≤ p.ep → 0 < p.l.length
namespace PJ
variable {n sf safe : Nat} {T l : List UInt8} {found prom : Int} {ps : List Pc} {ms : List (Int × Int)}
theorem len (h : PJ n T found prom ps sf safe l ms) : l.length = T.length + pcN ps := by rw [h.lE, List.length_append, pcB_len]
theorem mlen (h : PJ n T found prom ps sf safe l ms) : ms.length ≤ ps.length + 1 := by
  rw [h.msE]
  have := mks_len T.length ps
  simp
  omega
theorem sure (h : PJ n T found prom ps sf safe l ms) : sureOf safe (-1) ms = pcS found (ps.take sf) := by
  rw [h.msE, h.sfE]
  have := pcN_le ps sf
  show sureOf _ (if (T.length : Int) ≤ _ then found else -1) _ = _
  rw [if_pos (by omega)]
  exact mks_sure ps T.length sf found h.pos
theorem prom2 (h : PJ n T found prom ps sf safe l ms) (hn : n ≤ 1000000) : prom ≤ 1000000 := by
  rcases h.fit.2 with e | e <;> omega
theorem promise (h : PJ n T found prom ps sf safe l ms) (r : Rc) : PJ n T found (promR n l.length prom r).2.2 ps sf safe l ms := by
  have h0 := h.p0
  have hf := h.fit
  rw [promR_size]
  split
  · exact h
  split
  · exact h
  · exact ⟨h.lE, h.msE, h.sfE, by show 0 ≤ prom + (sizeR r : Int); omega, ⟨hf.1, .inr (by show (l.length : Int) + (prom + (sizeR r : Int)) + 14 ≤ n; omega)⟩, h.pos⟩
theorem forget (h : PJ n T found prom ps sf safe l ms) {k : Int} (h0 : 0 ≤ k) (h1 : k ≤ prom) : PJ n T found (prom - k) ps sf safe l ms :=
  ⟨h.lE, h.msE, h.sfE, by omega, ⟨h.fit.1, by rcases h.fit.2 with e | e; left; omega; right; omega⟩, h.pos⟩
theorem flush (h : PJ n T found prom ps sf safe l ms) : PJ n T found prom ps ps.length l.length l ms :=
  ⟨h.lE, h.msE, by rw [List.take_length]; exact h.len, h.p0, h.fit, h.pos⟩
theorem laid (h : PJ n T found prom ps sf safe l ms) (hs : sf ≤ ps.length) (p : Pc) {prom' : Int} (h0 : 0 ≤ prom') (hf : l.length + p.l.length ≤ n ∧ (prom' = 0 ∨ (l.length : Int) + p.l.length + prom' + 14 ≤ n)) (hp : 0 ≤ p.ep → 0 < p.l.length) :
    PJ n T found prom' (ps ++ [p]) sf safe (l ++ p.l) (ms ++ (if 0 ≤ p.ep then [(p.ep, ((l.length + p.l.length : Nat) : Int))] else [])) := by
  refine ⟨by rw [pcB_snoc, ← List.append_assoc, ← h.lE], ?_, ?_, h0, ⟨by rw [List.length_append]; exact hf.1, by rw [List.length_append]; rcases hf.2 with e | e; exact .inl e; right; omega⟩, fun q hq => ?_⟩
  · rw [mks_snoc, h.msE, h.len]
    rfl
  · rw [List.take_append_of_le_length hs]
    exact h.sfE
  · rcases List.mem_append.1 hq with hq | hq
    · exact h.pos q hq
    · obtain rfl : q = p := by simpa using hq
      exact hp
end PJ
/-- Append: the journal's answer is the reference's -/
theorem appR_rapp {n len st : Nat} {prom : Int} {ws : List Wr} (_ : 0 ≤ prom) (hf : prom = 0 ∨ (len : Int) + prom + 14 ≤ n) :
    (appR n len prom ⟨st, ws⟩).1 = rappE prom st ws ∧ (rappE prom st ws ≠ 0 → (appR n len prom ⟨st, ws⟩).2.1 = prom ∧ (appR n len prom ⟨st, ws⟩).2.2 = []) ∧
    (rappE prom st ws = 0 → (appR n len prom ⟨st, ws⟩).2.1 = prom - (sizeR ⟨max st 1, ws⟩ : Int) ∧ (appR n len prom ⟨st, ws⟩).2.2 = packL 1 (bodyL st ws) ∧ (packL 1 (bodyL st ws)).length = sizeR ⟨max st 1, ws⟩ ∧ len + (packL 1 (bodyL st ws)).length ≤ n ∧ ((packL 1 (bodyL st ws)).length : Int) ≤ prom) := by
  by_cases h0 : st = 0
  · subst h0
    have hw : Rc.wrong ⟨0, ws⟩ = true := by unfold Rc.wrong; simp
    have e1 : appR n len prom ⟨0, ws⟩ = (2, prom, []) := by unfold appR; rw [if_pos hw]
    have e2 : rappE prom 0 ws = 2 := by unfold rappE; rw [if_pos (.inr rfl)]
    rw [e1, e2]
    exact ⟨rfl, fun _ => ⟨rfl, rfl⟩, fun h => absurd h (by decide)⟩
  · have hm : max st 1 = st := by omega
    rw [hm]
    cases hw : Rc.wrong ⟨st, ws⟩ with
    | true =>
      have e1 : appR n len prom ⟨st, ws⟩ = (2, prom, []) := by unfold appR; rw [if_pos hw]
      have e2 : rappE prom st ws = 2 := by unfold rappE; rw [hm]; unfold sizeR; rw [if_pos hw, if_pos (.inl rfl)]
      rw [e1, e2]
      exact ⟨rfl, fun _ => ⟨rfl, rfl⟩, fun h => absurd h (by decide)⟩
    | false =>
      have hsz : sizeR ⟨st, ws⟩ = (packL 1 (bodyL st ws)).length := by unfold sizeR; rw [hw, pack_len]; simp
      obtain ⟨P, hP⟩ : ∃ P, P = packL 1 (bodyL st ws) := ⟨_, rfl⟩
      have hP0 : P.length ≠ 0 := by rw [hP, pack_len]; omega
      have e2 : rappE prom st ws = if prom < (P.length : Int) then 50 else 0 := by
        unfold rappE
        rw [hm, hsz, ← hP, if_neg (by omega)]
      have e1 : appR n len prom ⟨st, ws⟩ = if prom < (P.length : Int) then (50, prom, []) else if len + P.length ≤ n then (0, prom - P.length, P) else (50, prom - P.length, []) := by
        unfold appR
        rw [if_neg (by rw [hw]; decide)]
        simp only [← hP]
      rw [hsz, ← hP]
      by_cases hlt : prom < (P.length : Int)
      · rw [if_pos hlt] at e1 e2
        rw [e1, e2]
        exact ⟨rfl, fun _ => ⟨rfl, rfl⟩, fun h => absurd h (by decide)⟩
      · rw [if_neg hlt] at e1 e2
        have hfit : len + P.length ≤ n := by rcases hf with e | e <;> omega
        rw [if_pos hfit] at e1
        rw [e1, e2]
        exact ⟨rfl, fun h => absurd rfl h, fun _ => ⟨rfl, rfl, rfl, hfit, by omega⟩⟩
theorem smallW_body {st : Nat} {ws : List Wr} (h : smallW 10 200 ws = true) : ws.length ≤ 10 ∧ (bodyL st ws).length ≤ 12330 := by
  have h2 : smallW 20 300 ws = true := by
    unfold smallW at h ⊢
    simp only [Bool.and_eq_true, decide_eq_true_eq, List.all_eq_true] at h ⊢
    exact ⟨by omega, fun x hx => ⟨by have := (h.2 x hx).1; omega, by have := (h.2 x hx).2; omega⟩⟩
  refine ⟨?_, (small_body2 h2).2⟩
  unfold smallW at h
  simp only [Bool.and_eq_true, decide_eq_true_eq] at h
  exact h.1
end Go.Proofs.Ytcghgnncmnoalaa
namespace Go.Proofs.Ytcghgnncmnoalaa
open Go.RowKit Go.Maps

/-- the journal and the reference, side by side -/
structure JA (w wr : World) (jb db rb n : Nat) (found : Int) (T : List UInt8) (prom last : Int) (ps : List Pc) (sf safe : Nat) (l : List UInt8) (ms : List (Int × Int)) : Prop where
  s : JS wr jb db n safe prom last w.heap.size l ms
  r : RJ wr rb n prom last found T ps sf w.heap.size
  b : Below w.heap.size w wr
  d : ∀ p ∈ ps, ∀ x, p.a = some x → dob wr db ≠ some x.block
  p : PJ n T found prom ps sf safe l ms
  jB : w.heap.size ≤ jb
  dB : w.heap.size ≤ db
theorem RJ.chg2 {w w' : World} {rb room safe B : Nat} {prom last found : Int} {old : List UInt8} {ps : List Pc} (h : RJ w rb room prom last found old ps safe B) {S : Nat → Prop} (hc : Chg w w' S) (h0 : ∀ j, S j → B ≤ j) (h1 : ¬ S rb)
    (h2 : ∀ p ∈ ps, ∀ x, p.a = some x → ¬ S x.block) (h3 : ∀ j cs, w.heap[j]? = some (.cells cs 181) → ¬ S j) : RJ w' rb room prom last found old ps safe B := by
  obtain ⟨oa, ocap, pa, pcap, e1, e2, e3, e4⟩ := h.ex
  refine ⟨⟨oa, ocap, pa, pcap, (hc.block _ h.lt h1).trans e1, e2.chg hc h0, e3, e4.chg hc (fun j hj => by obtain ⟨cs, q⟩ := own_t e4 hj; exact h3 j cs q)⟩,
    fun p hp => ownsRow_of_block (h.bs p hp) (fun j hj => hc.block j ((h.bs p hp).lt j hj).2 ?_), h.rbB, h.room, h.old, h.n, h.len, h.safe⟩
  cases ha : p.a with
  | none => rw [ha] at hj; cases hj
  | some x =>
    obtain ⟨g, hg, _⟩ := (bs_cap (h.bs p hp)).2.2.2 x ha
    have hx : x.block = j := by
      rw [ha, hg] at hj
      rw [hg]
      injection hj
    rw [← hx]
    exact h2 p hp x ha
namespace JA
variable {w wr : World} {jb db rb n sf safe : Nat} {found prom last : Int} {T l : List UInt8} {ps : List Pc} {ms : List (Int × Int)}
theorem below {w' : World} (h : JA w wr jb db rb n found T prom last ps sf safe l ms) (hb : Below wr.heap.size wr w') : JA w w' jb db rb n found T prom last ps sf safe l ms :=
  ⟨h.s.below hb, h.r.below hb, below_then h.b hb, fun p hp x hx => by rw [dob_below h.s.d hb]; exact h.d p hp x hx, h.p, h.jB, h.dB⟩
/-- where a piece's bytes lie -/
theorem pc (h : JA w wr jb db rb n found T prom last ps sf safe l ms) {p : Pc} (hp : p ∈ ps) {x : Addr} (hx : p.a = some x) : w.heap.size ≤ x.block ∧ x.block < wr.heap.size ∧ ∃ cs, wr.heap[x.block]? = some (.cells cs 5) := by
  obtain ⟨g, hg, h1, h2⟩ := (bs_cap (h.r.bs p hp)).2.2.2 x hx
  rw [hg]
  exact ⟨h1, h2, bso_t (h.r.bs p hp) (by rw [hx, hg]; rfl)⟩
/-- the journal turned -/
theorem jturn {w' : World} (h : JA w wr jb db rb n found T prom last ps sf safe l ms) {prom' last' : Int} {l' : List UInt8} {ms' : List (Int × Int)} {safe' : Nat} (hs : JS w' jb db n safe' prom' last' w.heap.size l' ms')
    (hc : Chg wr w' (fun j => j = jb ∨ j = db ∨ dob wr db = some j ∨ job wr jb = some j)) (hd : DFr wr w' db) :
    RJ w' rb n prom last found T ps sf w.heap.size ∧ Below w.heap.size w w' ∧ ∀ p ∈ ps, ∀ x, p.a = some x → dob w' db ≠ some x.block := by
  obtain ⟨_, _, _, _, e1, _⟩ := h.r.ex
  obtain ⟨_, _, ej, _⟩ := h.s.j
  obtain ⟨_, _, ed, _⟩ := h.s.d.ex
  refine ⟨h.r.chg2 hc (fun j hj => h.s.ge h.jB h.dB hj) (fun hj => ?_) (fun p hp x hx hj => ?_) (fun j cs hcs hj => ?_), h.b.trans (hc.below h.b.size (fun i hi => h.s.ge h.jB h.dB hi)), fun p hp x hx e => ?_⟩
  · rcases hj with rfl | rfl | hj | hj
    · exact ty_ne e1 ej (by decide) rfl
    · exact ty_ne e1 ed (by decide) rfl
    · obtain ⟨cs, q⟩ := h.s.d.obt hj
      exact ty_ne e1 q (by decide) rfl
    · obtain ⟨cs, q⟩ := h.s.j.obt hj
      exact ty_ne e1 q (by decide) rfl
  · obtain ⟨_, _, cs, q⟩ := h.pc hp hx
    rcases hj with hj | hj | hj | hj
    · exact ty_ne q ej (by decide) hj
    · exact ty_ne q ed (by decide) hj
    · exact h.d p hp x hx hj
    · obtain ⟨cs2, q2⟩ := h.s.j.obt hj
      exact ty_ne q q2 (by decide) rfl
  · rcases hj with rfl | rfl | hj | hj
    · exact ty_ne hcs ej (by decide) rfl
    · exact ty_ne hcs ed (by decide) rfl
    · obtain ⟨cs2, q⟩ := h.s.d.obt hj
      exact ty_ne hcs q (by decide) rfl
    · obtain ⟨cs2, q⟩ := h.s.j.obt hj
      exact ty_ne hcs q (by decide) rfl
  · obtain ⟨_, hlt, _⟩ := h.pc hp hx
    rcases hd with hd | ⟨j, hd1, hd2⟩
    · exact h.d p hp x hx (hd.symm.trans e)
    · rw [hd2] at e
      injection e with e
      omega
/-- the reference turned -/
theorem rturn {w' : World} {prom' last' : Int} (hs : JS wr jb db n safe prom last w.heap.size l ms) (hr : RJ wr rb n prom' last' found T ps sf w.heap.size) (hc : Chg wr w' (fun j => j = rb ∨ rob wr rb = some j)) :
    JS w' jb db n safe prom last w.heap.size l ms ∧ dob w' db = dob wr db := by
  obtain ⟨_, _, pa, pcap, e1, _, _, e4⟩ := hr.ex
  obtain ⟨_, _, ej, _⟩ := hs.j
  obtain ⟨_, _, ed, _⟩ := hs.d.ex
  have hro : rob wr rb = (Value.slice pa ps.length pcap).ownBlock := rob_eq e1
  have hno : ∀ {j : Nat} {c : Array Value} {t : TypeId}, wr.heap[j]? = some (.cells c t (0, 0)) → t ≠ 117 → t ≠ 181 → ¬ (j = rb ∨ rob wr rb = some j) := fun hj h1 h2 hx => by
    rcases hx with rfl | hx
    · exact ty_ne hj e1 h1 rfl
    · rw [hro] at hx
      obtain ⟨cs, q⟩ := own_t e4 hx
      exact ty_ne hj q h2 rfl
  refine ⟨hs.chg hc (hno ed (by decide) (by decide)) (hno ej (by decide) (by decide)) (fun j hj => ?_) (fun j hj => ?_), dob_chg hs.d hc (hno ed (by decide) (by decide))⟩
  · obtain ⟨cs, q⟩ := hs.d.obt hj
    exact hno q (by decide) (by decide)
  · obtain ⟨cs, q⟩ := hs.j.obt hj
    exact hno q (by decide) (by decide)
end JA
end Go.Proofs.Ytcghgnncmnoalaa
namespace Go.Proofs.Ytcghgnncmnoalaa
open Go.RowKit Go.Maps

/-- what 'does' leaves -/
def DoesPost (w : World) (jb db rb n : Nat) (found : Int) (T : List UInt8) (m : Nat) (e : Ending) (w' : World) : Prop :=
  e = .returned (.bool true) ∧ ∃ (prom last : Int) (ps : List Pc) (sf safe : Nat) (l : List UInt8) (ms : List (Int × Int)), JA w w' jb db rb n found T prom last ps sf safe l ms ∧ ps.length ≤ m + 1
section
variable {w wr : World} {jb db rb n sf safe : Nat} {found prom last : Int} {T l : List UInt8} {ps : List Pc} {ms : List (Int × Int)}
theorem JA.small (h : JA w wr jb db rb n found T prom last ps sf safe l ms) (hn : n ≤ 4000) : prom ≤ 1000000 ∧ l.length ≤ 4000 ∧ pcN ps ≤ 4000 ∧ ms.length ≤ ps.length + 1 :=
  ⟨h.p.prom2 (by omega), by have := h.p.fit.1; omega, by have := h.p.len; have := h.p.fit.1; omega, h.p.mlen⟩
set_option maxRecDepth 100000 in
set_option maxHeartbeats 2000000 in
theorem jdoes0 (h : JA w wr jb db rb n found T prom last ps sf safe l ms) (hn : n ≤ 4000) (k : Int) (st : Nat) (a : Option Addr) (cap : Nat) (ws : List Wr) (hw : WsV w a ws) (hs : st < 18446744073709551616) (hsm : smallW 10 200 ws = true) :
    Calls Try.prog 68 #[.pointer (some ⟨jb, 0, none⟩), .pointer (some ⟨rb, 0, none⟩), .agg #[.int .i64 0, .int .i64 k, .int .u64 st, .slice a ws.length cap]] wr (DoesPost w jb db rb n found T ps.length) := by
  obtain ⟨wn, hwn⟩ : ∃ x, x = ws.length := ⟨_, rfl⟩
  rw [← hwn]
  obtain ⟨W, hW⟩ : ∃ W, wr.alloc (.cells #[.int .i64 0, .int .i64 k, .int .u64 st, .slice a wn cap] 99) = W := ⟨_, rfl⟩
  have bW : Below wr.heap.size wr W := by rw [← hW]; exact below_box wr _
  have eW : W.heap[wr.heap.size]? = some (.cells #[.int .i64 0, .int .i64 k, .int .u64 st, .slice a wn cap] 99) := by rw [← hW]; exact heap_new wr _
  have HJ := Lib.hid (h.below bW)
  have HS := Lib.hid (h.small hn)
  have HB := Lib.hid (small_body2 (st := max st 1) (show smallW 20 300 ws = true by
    unfold smallW at hsm ⊢
    simp only [Bool.and_eq_true, decide_eq_true_eq, List.all_eq_true] at hsm ⊢
    exact ⟨by omega, fun x hx => ⟨by have := (hsm.2 x hx).1; omega, by have := (hsm.2 x hx).2; omega⟩⟩))
  have HX := Lib.hid (And.intro hwn hs)
  have HW := Lib.hid hW
  have HWS := Lib.hid hw
  have HEW := Lib.hid eW
  have v0 := cell_of_blk eW 0
  have v2 := cell_of_blk eW 2
  have v3 := cell_of_blk eW 3
  simp at v0 v2 v3
  obtain ⟨qq, hq⟩ : ∃ q, promR n l.length prom ⟨max st 1, ws⟩ = q := ⟨_, rfl⟩
  obtain ⟨q1, q2, q3⟩ := qq
  have HQ := Lib.hid hq
  have HLN := Lib.hid h.p.len
  clear h hn hwn hw hs hsm hW bW eW hq
  go_enter Try.func68, Try.ntmps68
  go_upto_region 1 with fail
  rw [HW.out]
  go_wp2_with fail
  refine (jPromise_any HJ.out.s HJ.out.p.p0 (by have := HS.out.1; omega) st a cap wn ws HX.out.1 (HWS.out.below HJ.out.b) HX.out.2 (by have := HB.out.1; omega) (by have := HB.out.2; omega)).mono ?_
  rintro e w1 ⟨rfl, s1, g1⟩
  rw [HQ.out] at s1 ⊢
  obtain ⟨r1, b1, d1⟩ := HJ.out.jturn s1 (g1.mono (fun _ _ h => .inl h)) (DFr.chg HJ.out.s.d g1 (fun e => (HJ.out.s.j.ne HJ.out.s.d) e.symm))
  have e1 := (g1.block wr.heap.size (Array.getElem?_eq_some_iff.1 HEW.out).1 (fun e => by obtain ⟨_, _, ej, _⟩ := HJ.out.s.j; exact ty_ne HEW.out ej (by decide) e)).trans HEW.out
  have u0 := cell_of_blk e1 0
  have u2 := cell_of_blk e1 2
  have u3 := cell_of_blk e1 3
  simp at u0 u2 u3
  have HS1 := Lib.hid s1
  have HR1 := Lib.hid r1
  have HB1 := Lib.hid b1
  have HD1 := Lib.hid d1
  clear s1 g1 r1 b1 d1 e1 v0 v2 v3
  dsimp only
  go_wp2_with fail
  refine (j15Promise_any HR1.out HJ.out.p.p0 (by have := HS.out.1; omega) st a cap wn ws HX.out.1 (HWS.out.below HB1.out) HX.out.2 (by have := HB.out.1; omega) (by have := HB.out.2; omega)).mono ?_
  rintro e w2 ⟨rfl, r2, g2⟩
  rw [← HLN.out, HQ.out] at r2 ⊢
  obtain ⟨s2, o2⟩ := JA.rturn HS1.out HR1.out (g2.mono (fun _ _ h => .inl h))
  have HJ2 : Hid (JA w w2 jb db rb n found T q3 last ps sf safe l ms) := Lib.hid ⟨s2, r2, HB1.out.trans (g2.below HB1.out.size (fun i hi => by rw [hi]; exact HR1.out.rbB)), fun p hp x hx => by rw [o2]; exact HD1.out p hp x hx, by have := HJ.out.p.promise ⟨max st 1, ws⟩; rw [HQ.out] at this; exact this, HJ.out.jB, HJ.out.dB⟩
  clear s2 r2 g2 o2 u0 u2 u3
  dsimp only
  go_wp2_with fail
  go_ret
  exact ⟨rfl, q3, last, ps, sf, safe, l, ms, HJ2.out, by omega⟩
theorem RJ.flush {B : Nat} (h : RJ wr rb n prom last found T ps sf B) : RJ (wr.setCell ⟨rb, 6, none⟩ (.int .i64 ps.length)) rb n prom last found T ps ps.length B := by
  have hc : Chg wr (wr.setCell ⟨rb, 6, none⟩ (.int .i64 ps.length)) (fun j => j = rb) := (Chg.refl wr (fun j => j = rb)).setCell (p := ⟨rb, 6, none⟩) (fun _ => rfl) _
  obtain ⟨oa, ocap, pa, pcap, h1, h2, h3, h4⟩ := h.ex
  exact ⟨⟨oa, ocap, pa, pcap, by rw [blk_setCell h1]; rfl, h2.chg hc (fun j e => by rw [e]; exact h.rbB), h3, h4.chg hc (fun j hj => by obtain ⟨cs, q⟩ := own_t h4 hj; exact ty_ne q h1 (by decide))⟩,
    fun q hq => ownsRow_of_block (h.bs q hq) (fun j hj => hc.block j ((h.bs q hq).lt j hj).2 (by obtain ⟨cs, r⟩ := bso_t (h.bs q hq) hj; exact ty_ne r h1 (by decide))), h.rbB, h.room, h.old, h.n, h.len, Nat.le_refl _⟩
/-- a cell of the reference's own block turned -/
theorem JA.rcell (h : JA w wr jb db rb n found T prom last ps sf safe l ms) {w' : World} (hc : Chg wr w' (fun j => j = rb)) :
    JS w' jb db n safe prom last w.heap.size l ms ∧ Below w.heap.size w w' ∧ ∀ p ∈ ps, ∀ x, p.a = some x → dob w' db ≠ some x.block := by
  obtain ⟨s2, o2⟩ := JA.rturn h.s h.r (hc.mono (fun _ _ h => .inl h))
  exact ⟨s2, h.b.trans (hc.below h.b.size (fun i hi => by rw [hi]; exact h.r.rbB)), fun p hp x hx => by rw [o2]; exact h.d p hp x hx⟩
set_option maxRecDepth 100000 in
set_option maxHeartbeats 2000000 in
theorem jdoes2n (h : JA w wr jb db rb n found T prom last ps sf safe l ms) (hn : n ≤ 4000) (k : Int) (hbad : k < 0 ∨ prom < k) (st : Nat) (a : Option Addr) (cap wn : Nat) :
    Calls Try.prog 68 #[.pointer (some ⟨jb, 0, none⟩), .pointer (some ⟨rb, 0, none⟩), .agg #[.int .i64 2, .int .i64 k, .int .u64 st, .slice a wn cap]] wr (DoesPost w jb db rb n found T ps.length) := by
  obtain ⟨W, hW⟩ : ∃ W, wr.alloc (.cells #[.int .i64 2, .int .i64 k, .int .u64 st, .slice a wn cap] 99) = W := ⟨_, rfl⟩
  have bW : Below wr.heap.size wr W := by rw [← hW]; exact below_box wr _
  have eW : W.heap[wr.heap.size]? = some (.cells #[.int .i64 2, .int .i64 k, .int .u64 st, .slice a wn cap] 99) := by rw [← hW]; exact heap_new wr _
  have HJ := Lib.hid (h.below bW)
  have HS := Lib.hid (h.small hn)
  have HW := Lib.hid hW
  have v0 := cell_of_blk eW 0
  have v1 := cell_of_blk eW 1
  simp at v0 v1
  obtain ⟨_, _, _, _, er, _⟩ := HJ.out.r.ex
  have k1 := cell_of_blk er 1
  simp at k1
  have HBAD := Lib.hid hbad
  have tt : decide (k < 0) = true ∨ (decide (k < 0) = false ∧ decide (prom < k) = true) := by
    by_cases h : k < 0
    · exact .inl (decide_eq_true h)
    · exact .inr ⟨decide_eq_false h, decide_eq_true (by omega)⟩
  clear h hn hbad hW bW eW er
  rcases tt with t1 | ⟨t1, t2⟩
  all_goals
    go_enter Try.func68, Try.ntmps68
    go_upto_region 1 with fail
    rw [HW.out]
    go_wp2_with fail
    go_quiet (fail)
    have HJ2 := Lib.hid (HJ.out.below (below_drewN (Below.refl _ _) nq))
    go_wp2_with fail
    refine (jForget_any HJ2.out.s (by have := HS.out.1; omega) k).mono ?_
    rintro e w1 ⟨h1, _⟩
    obtain ⟨rfl, rfl⟩ := h1 HBAD.out
    clear h1
    go_wp2_with fail
    go_ret
    exact ⟨rfl, prom, last, ps, sf, safe, l, ms, HJ2.out, by omega⟩
set_option maxRecDepth 100000 in
set_option maxHeartbeats 2000000 in
theorem jdoes2y (h : JA w wr jb db rb n found T prom last ps sf safe l ms) (hn : n ≤ 4000) (k : Int) (h0 : 0 ≤ k) (h1 : k ≤ prom) (st : Nat) (a : Option Addr) (cap wn : Nat) :
    Calls Try.prog 68 #[.pointer (some ⟨jb, 0, none⟩), .pointer (some ⟨rb, 0, none⟩), .agg #[.int .i64 2, .int .i64 k, .int .u64 st, .slice a wn cap]] wr (DoesPost w jb db rb n found T ps.length) := by
  obtain ⟨W, hW⟩ : ∃ W, wr.alloc (.cells #[.int .i64 2, .int .i64 k, .int .u64 st, .slice a wn cap] 99) = W := ⟨_, rfl⟩
  have bW : Below wr.heap.size wr W := by rw [← hW]; exact below_box wr _
  have eW : W.heap[wr.heap.size]? = some (.cells #[.int .i64 2, .int .i64 k, .int .u64 st, .slice a wn cap] 99) := by rw [← hW]; exact heap_new wr _
  have HJ := Lib.hid (h.below bW)
  have HS := Lib.hid (h.small hn)
  have HW := Lib.hid hW
  have HEW := Lib.hid eW
  have v0 := cell_of_blk eW 0
  have v1 := cell_of_blk eW 1
  simp at v0 v1
  obtain ⟨_, _, _, _, er, _⟩ := HJ.out.r.ex
  have k1 := cell_of_blk er 1
  have f1 := frozen_of_blk er 1
  simp at k1
  have HK := Lib.hid (And.intro h0 h1)
  have t1 : decide (k < 0) = false := decide_eq_false (by omega)
  have t2 : decide (prom < k) = false := decide_eq_false (by omega)
  have w4 : IntKind.i64.wrap (prom - k) = prom - k := by rw [IntKind.wrap_i64]; have := HS.out.1; omega
  clear h hn hW bW eW er h0 h1
  go_enter Try.func68, Try.ntmps68
  go_upto_region 1 with fail
  rw [HW.out]
  go_wp2_with fail
  go_quiet (fail)
  obtain ⟨X, hX⟩ : ∃ X, W.drewN nq = X := ⟨_, rfl⟩
  rw [hX]
  have bX : Below W.heap.size W X := by rw [← hX]; exact below_drewN (Below.refl _ _) nq
  have HJ2 := Lib.hid (HJ.out.below bX)
  have eX := (bX.block _ (Array.getElem?_eq_some_iff.1 HEW.out).1).trans HEW.out
  obtain ⟨_, _, _, _, er, _⟩ := HJ2.out.r.ex
  have x1 := cell_of_blk eX 1
  have y1 := cell_of_blk er 1
  have z1 := frozen_of_blk er 1
  simp at x1 y1
  have HEX := Lib.hid eX
  clear hX bX eX er v0 v1 k1 f1
  go_upto_region 11 with fail
  refine wp_region_still_tail 9 (by kernel_rfl) (by kernel_rfl) ?_
  change wpStill _ _ (World.drew _) (fun a' => wpList _ _ _ _ a' (World.drew _)) _ _
  simp only [List.take_succ_cons, List.take_zero, List.drop_succ_cons, List.drop_zero]
  repeat still_step
  refine wpStill_nil ?_
  obtain ⟨Y, hY⟩ : ∃ Y, (X.setCell ⟨rb, 1, none⟩ (.int .i64 (prom - k))).drew = Y := ⟨_, rfl⟩
  have hrY : RJ Y rb n (prom - k) last found T ps sf w.heap.size := by rw [← hY]; exact (HJ2.out.r.prom _).below (below_drewN (Below.refl _ _) 1)
  have hgY : Chg X Y (fun j => j = rb) := by rw [← hY]; exact ((Chg.refl X (fun j => j = rb)).setCell (p := ⟨rb, 1, none⟩) (fun _ => rfl) _).drew
  obtain ⟨sY, bY, dY⟩ := HJ2.out.rcell hgY
  obtain ⟨_, _, _, _, erx, _⟩ := HJ2.out.r.ex
  have eY := (hgY.block _ (Array.getElem?_eq_some_iff.1 HEX.out).1 (ty_ne HEX.out erx (by decide))).trans HEX.out
  have q1 := cell_of_blk eY 1
  simp at q1
  have HY := Lib.hid hY
  have HRY := Lib.hid hrY
  have HSY := Lib.hid sY
  have HBY := Lib.hid bY
  have HDY := Lib.hid dY
  clear hY hrY hgY sY bY dY erx eY
  go_upto_region 12 with fail
  rw [HY.out]
  clear x1 y1 z1
  go_wp2_with fail
  refine (jForget_any HSY.out (by have := HS.out.1; omega) k).mono ?_
  rintro e w1 ⟨_, h2⟩
  obtain ⟨rfl, s1, g1⟩ := h2 HK.out.1 HK.out.2
  have HF : Hid (JA w w1 jb db rb n found T (prom - k) last ps sf safe l ms) := Lib.hid (by
    obtain ⟨_, _, _, _, ery, _⟩ := HRY.out.ex
    obtain ⟨_, _, ejy, _⟩ := HSY.out.j
    obtain ⟨_, _, edy, _⟩ := HSY.out.d.ex
    have hdb : dob w1 db = dob Y db := dob_chg HSY.out.d g1 (fun e => (HSY.out.j.ne HSY.out.d) e.symm)
    refine ⟨s1, HRY.out.chg g1 (fun j hj => by rw [hj]; exact HJ2.out.jB) (fun e => ty_ne ery ejy (by decide) e) (fun j cs q e => ty_ne q ejy (by decide) e) (fun j cs q e => ty_ne q ejy (by decide) e), HBY.out.trans (g1.below HBY.out.size (fun i hi => by rw [hi]; exact HJ2.out.jB)), fun p hp x hx => by rw [hdb]; exact HDY.out p hp x hx, HJ2.out.p.forget HK.out.1 HK.out.2, HJ2.out.jB, HJ2.out.dB⟩)
  clear h2 s1 g1 q1
  go_wp2_with fail
  go_ret
  exact ⟨rfl, prom - k, last, ps, sf, safe, l, ms, HF.out, by omega⟩
set_option maxRecDepth 100000 in
set_option maxHeartbeats 2000000 in
theorem jdoes4 (h : JA w wr jb db rb n found T prom last ps sf safe l ms) (hn : n ≤ 4000) (hps : ps.length ≤ 1000) (k : Int) (st : Nat) (a : Option Addr) (cap wn : Nat) :
    Calls Try.prog 68 #[.pointer (some ⟨jb, 0, none⟩), .pointer (some ⟨rb, 0, none⟩), .agg #[.int .i64 4, .int .i64 k, .int .u64 st, .slice a wn cap]] wr (DoesPost w jb db rb n found T ps.length) := by
  obtain ⟨W, hW⟩ : ∃ W, wr.alloc (.cells #[.int .i64 4, .int .i64 k, .int .u64 st, .slice a wn cap] 99) = W := ⟨_, rfl⟩
  have bW : Below wr.heap.size wr W := by rw [← hW]; exact below_box wr _
  have eW : W.heap[wr.heap.size]? = some (.cells #[.int .i64 4, .int .i64 k, .int .u64 st, .slice a wn cap] 99) := by rw [← hW]; exact heap_new wr _
  have HJ := Lib.hid (h.below bW)
  have HW := Lib.hid hW
  have v0 := cell_of_blk eW 0
  simp at v0
  obtain ⟨_, _, _, _, er, _⟩ := HJ.out.r.ex
  have k5 := cell_of_blk er 5
  have k6 := cell_of_blk er 6
  have f6 := frozen_of_blk er 6
  simp at k5 k6
  obtain ⟨pn, hpn⟩ : ∃ x, x = ps.length := ⟨_, rfl⟩
  rw [← hpn] at k5
  obtain ⟨Y, hY⟩ : ∃ Y, W.setCell ⟨rb, 6, none⟩ (.int .i64 pn) = Y := ⟨_, rfl⟩
  have hrY : RJ Y rb n prom last found T ps ps.length w.heap.size := by rw [← hY, hpn]; exact HJ.out.r.flush
  have hgY : Chg W Y (fun j => j = rb) := by rw [← hY]; exact (Chg.refl W (fun j => j = rb)).setCell (p := ⟨rb, 6, none⟩) (fun _ => rfl) _
  obtain ⟨sY, bY, dY⟩ := HJ.out.rcell hgY
  have HSU := Lib.hid (HJ.out.p.flush.sure)
  have HP := Lib.hid HJ.out.p.flush
  have HM := Lib.hid (h.small hn)
  have HPS := Lib.hid hps
  have HY := Lib.hid hY
  have HRY := Lib.hid hrY
  have HSY := Lib.hid sY
  have HBY := Lib.hid bY
  have HDY := Lib.hid dY
  have hp6 : pn ≤ 1000 := by omega
  have HPN := Lib.hid hpn
  clear h hn hps hW bW eW er hY hrY hgY sY bY dY hpn
  go_enter Try.func68, Try.ntmps68
  go_upto_region 1 with fail
  rw [HW.out]
  go_upto_region 16 with fail
  go_wp2_with fail
  rw [HY.out]
  clear k5 k6 f6 v0
  go_wp2_with fail
  refine (jFlush2_any HSY.out (by have := HM.out.2.2.2; have := HPS.out; omega)).mono ?_
  rintro e w1 ⟨⟨rfl, s1, g1⟩, f1⟩
  rw [HSU.out]
  have HF : Hid (JA w w1 jb db rb n found T prom last ps ps.length l.length l ms) := Lib.hid (by
    obtain ⟨_, _, pa, pcap, ery, _, _, e4⟩ := HRY.out.ex
    obtain ⟨_, _, ejy, _⟩ := HSY.out.j
    obtain ⟨_, _, edy, _⟩ := HSY.out.d.ex
    have hlt : ∀ p ∈ ps, ∀ x, p.a = some x → x.block < Y.heap.size := fun p hp x hx => by
      obtain ⟨g, hg, _, h2⟩ := (bs_cap (HRY.out.bs p hp)).2.2.2 x hx
      rw [hg]; exact h2
    refine ⟨s1, HRY.out.chg g1 (fun j hj => by rw [hj]; exact HJ.out.dB) (fun e => ty_ne ery edy (by decide) e) (fun j cs q e => ty_ne q edy (by decide) e) (fun j cs q e => ty_ne q edy (by decide) e), HBY.out.trans (g1.below HBY.out.size (fun i hi => by rw [hi]; exact HJ.out.dB)), fun p hp x hx e => ?_, HP.out, HJ.out.jB, HJ.out.dB⟩
    rcases f1 with hd | ⟨j, hd1, hd2⟩
    · exact HDY.out p hp x hx (hd.symm.trans e)
    · rw [hd2] at e
      injection e with e
      have := hlt p hp x hx
      omega)
  clear s1 g1 f1
  go_wp2_with fail
  refine (j15Sure_any HF.out.r).mono ?_
  rintro e w2 ⟨rfl, rfl⟩
  go_wp2_with fail
  go_ret
  exact ⟨rfl, prom, last, ps, ps.length, l.length, l, ms, HF.out, by omega⟩
set_option maxRecDepth 100000 in
set_option maxHeartbeats 2000000 in
theorem jdoes9 (h : JA w wr jb db rb n found T prom last ps sf safe l ms) (kd k : Int) (hk : kd ≠ 0 ∧ kd ≠ 1 ∧ kd ≠ 2 ∧ kd ≠ 3 ∧ kd ≠ 4) (st : Nat) (a : Option Addr) (cap wn : Nat) :
    Calls Try.prog 68 #[.pointer (some ⟨jb, 0, none⟩), .pointer (some ⟨rb, 0, none⟩), .agg #[.int .i64 kd, .int .i64 k, .int .u64 st, .slice a wn cap]] wr (DoesPost w jb db rb n found T ps.length) := by
  obtain ⟨W, hW⟩ : ∃ W, wr.alloc (.cells #[.int .i64 kd, .int .i64 k, .int .u64 st, .slice a wn cap] 99) = W := ⟨_, rfl⟩
  have bW : Below wr.heap.size wr W := by rw [← hW]; exact below_box wr _
  have eW : W.heap[wr.heap.size]? = some (.cells #[.int .i64 kd, .int .i64 k, .int .u64 st, .slice a wn cap] 99) := by rw [← hW]; exact heap_new wr _
  have HJ := Lib.hid (h.below bW)
  have HW := Lib.hid hW
  have v0 := cell_of_blk eW 0
  simp at v0
  obtain ⟨k0, k1, k2, k3, k4⟩ := hk
  have b0 : (kd == 0) = false := by simp; exact k0
  have b1 : (kd == 1) = false := by simp; exact k1
  have b2 : (kd == 2) = false := by simp; exact k2
  have b3 : (kd == 3) = false := by simp; exact k3
  have b4 : (kd == 4) = false := by simp; exact k4
  clear h hW bW eW k0 k1 k2 k3 k4
  go_enter Try.func68, Try.ntmps68
  go_upto_region 1 with fail
  rw [HW.out]
  go_wp2_with fail
  go_ret
  exact ⟨rfl, prom, last, ps, sf, safe, l, ms, HJ.out, by omega⟩
end
end Go.Proofs.Ytcghgnncmnoalaa
namespace Go.Proofs.Ytcghgnncmnoalaa
open Go.RowKit Go.Maps

section
variable {w wr : World} {jb db rb n sf safe : Nat} {found prom last : Int} {T l : List UInt8} {ps : List Pc} {ms : List (Int × Int)}
theorem RJ.ge {B j : Nat} (h : RJ wr rb n prom last found T ps sf B) (hj : j = rb ∨ rob wr rb = some j) : B ≤ j := by
  rcases hj with rfl | hj
  · exact h.rbB
  · obtain ⟨_, _, pa, pcap, e1, _, _, e4⟩ := h.ex
    rw [rob_eq e1] at hj
    exact (e4.lt j hj).1
/-- the reference has laid a piece, or none -/
theorem JA.close {w1 w2 : World} {prom1 prom2 last1 last2 : Int} {l1 : List UInt8} {ms1 : List (Int × Int)} {ps2 : List Pc} (hs : JS w1 jb db n safe prom1 last1 w.heap.size l1 ms1) (hr : RJ w1 rb n prom last found T ps sf w.heap.size) (b1 : Below w.heap.size w w1)
    (d1 : ∀ p ∈ ps, ∀ x, p.a = some x → dob w1 db ≠ some x.block) (g2 : Chg w1 w2 (fun j => j = rb ∨ rob w1 rb = some j)) (hr2 : RJ w2 rb n prom2 last2 found T ps2 sf w.heap.size) (hn : ∀ p ∈ ps2, p ∈ ps ∨ PFr w1 p.a) (hp : PJ n T found prom2 ps2 sf safe l1 ms1) (he1 : prom1 = prom2) (he2 : last1 = last2)
    (jB : w.heap.size ≤ jb) (dB : w.heap.size ≤ db) : JA w w2 jb db rb n found T prom2 last2 ps2 sf safe l1 ms1 := by
  subst he1 he2
  obtain ⟨s2, o2⟩ := JA.rturn hs hr g2
  refine ⟨s2, hr2, b1.trans (g2.below b1.size (fun i hi => hr.ge hi)), fun p hp x hx e => ?_, hp, jB, dB⟩
  rw [o2] at e
  rcases hn p hp with h | h
  · exact d1 p h x hx e
  · have h1 := h x hx
    have h2 := (hs.d.ob e).2.1
    omega
theorem JA.appended {X w1 w2 : World} {st : Nat} {ws : List Wr} {e2 : Ending} (h : JA w X jb db rb n found T prom last ps sf safe l ms) (s1 : JS w1 jb db n safe (appR n l.length prom ⟨st, ws⟩).2.1 last w.heap.size (l ++ (appR n l.length prom ⟨st, ws⟩).2.2) ms)
    (g1 : Chg X w1 (fun j => j = jb ∨ j = db ∨ dob X db = some j)) (f1 : DFr X w1 db) (h2 : RAppPost w1 rb n prom last found T ps sf w.heap.size st ws e2 w2) :
    ∃ (prom last : Int) (ps2 : List Pc) (sf safe : Nat) (l : List UInt8) (ms : List (Int × Int)), JA w w2 jb db rb n found T prom last ps2 sf safe l ms ∧ ps2.length ≤ ps.length + 1 := by
  obtain ⟨r1, b1, d1⟩ := h.jturn s1 (g1.mono (fun _ _ h => h.elim .inl (fun q => q.elim (fun q => .inr (.inl q)) (fun q => .inr (.inr (.inl q)))))) f1
  obtain ⟨_, k2, k3, g2⟩ := h2
  obtain ⟨_, a2, a3⟩ := appR_rapp (n := n) (len := l.length) (st := st) (ws := ws) h.p.p0 h.p.fit.2
  by_cases hE : rappE prom st ws = 0
  · obtain ⟨a, c, hr2, hf⟩ := k3 hE
    obtain ⟨q1, q2, q3, q4, q5⟩ := a3 hE
    rw [q1, q2] at s1
    have hp := h.p.laid h.r.safe ⟨a, c, packL 1 (bodyL st ws), -1⟩ (prom' := prom - (sizeR ⟨max st 1, ws⟩ : Int)) (by rw [← q3]; omega) ⟨q4, by
      rcases h.p.fit.2 with e | e
      · left; have := h.p.p0; omega
      · right; show (l.length : Int) + ((packL 1 (bodyL st ws)).length : Nat) + _ + 14 ≤ n; omega⟩ (fun e => absurd e (by show ¬ (0 : Int) ≤ -1; decide))
    rw [if_neg (by show ¬ (0 : Int) ≤ -1; decide), List.append_nil] at hp
    exact ⟨_, last, _, sf, safe, _, ms, JA.close s1 r1 b1 d1 g2 hr2 (fun p hp => (List.mem_append.1 hp).elim .inl (fun q => .inr (by obtain rfl : p = _ := (by simpa using q); exact hf))) hp rfl rfl h.jB h.dB, by simp⟩
  · obtain ⟨q1, q2⟩ := a2 hE
    rw [q1, q2, List.append_nil] at s1
    exact ⟨prom, last, ps, sf, safe, l, ms, JA.close s1 r1 b1 d1 g2 (k2 hE) (fun p hp => .inl hp) h.p rfl rfl h.jB h.dB, by omega⟩
theorem JA.marked {X w1 w2 : World} {k : Int} {e1 e2 : Ending} (h : JA w X jb db rb n found T prom last ps sf safe l ms) (h1 : JMarkPost X jb db n safe prom last w.heap.size l ms k e1 w1) (h2 : RMarkPost w1 rb n prom last found T ps sf w.heap.size k e2 w2) :
    ∃ (prom last : Int) (ps2 : List Pc) (sf safe : Nat) (l : List UInt8) (ms : List (Int × Int)), JA w w2 jb db rb n found T prom last ps2 sf safe l ms ∧ ps2.length ≤ ps.length + 1 := by
  obtain ⟨_, j2, j3, g1, f1⟩ := h1
  obtain ⟨_, k2, k3, g2⟩ := h2
  rw [← h.p.len] at k2 k3
  by_cases hE : mkE n l.length prom last k = 0
  · obtain ⟨r1, b1, d1⟩ := h.jturn (j3 hE) g1 f1
    obtain ⟨a, c, hr2, hf⟩ := k3 hE
    have hk : 0 ≤ k ∧ (n : Int) - l.length - prom ≥ 28 := by
      unfold mkE at hE
      split at hE
      · exact absurd hE (by decide)
      split at hE
      · exact absurd hE (by decide)
      split at hE
      · exact absurd hE (by decide)
      · rename_i h1 h2 h3
        unfold epB inB at h1
        simp at h1
        omega
    have hpl : (packL 2 (fourL k.toNat)).length = 14 := by rw [pack_len]; simp [fourL]
    have hp := h.p.laid h.r.safe ⟨a, c, packL 2 (fourL k.toNat), k⟩ (prom' := prom) h.p.p0 ⟨by show l.length + (packL 2 (fourL k.toNat)).length ≤ n; rw [hpl]; have := h.p.p0; omega, .inr (by show (l.length : Int) + ((packL 2 (fourL k.toNat)).length : Nat) + prom + 14 ≤ n; rw [hpl]; omega)⟩ (fun _ => by show 0 < (packL 2 (fourL k.toNat)).length; omega)
    rw [if_pos hk.1] at hp
    simp only [hpl] at hp
    exact ⟨prom, k, _, sf, safe, _, _, JA.close (j3 hE) r1 b1 d1 g2 hr2 (fun p hp => (List.mem_append.1 hp).elim .inl (fun q => .inr (by obtain rfl : p = _ := (by simpa using q); exact hf))) hp rfl rfl h.jB h.dB, by simp⟩
  · obtain ⟨r1, b1, d1⟩ := h.jturn (j2 hE) g1 f1
    exact ⟨prom, last, ps, sf, safe, l, ms, JA.close (j2 hE) r1 b1 d1 g2 (k2 hE) (fun p hp => .inl hp) h.p rfl rfl h.jB h.dB, by omega⟩
/-- the box of an act is no journal's cell -/
theorem JA.actBox {X w1 : World} {g : Nat} {cs : Array Value} (h : JA w X jb db rb n found T prom last ps sf safe l ms) (e : X.heap[g]? = some (.cells cs 99)) {S : Nat → Prop} (hc : Chg X w1 S) (hS : ∀ j, S j → j = jb ∨ j = db ∨ dob X db = some j ∨ job X jb = some j) : w1.heap[g]? = some (.cells cs 99) := by
  obtain ⟨_, _, ej, _⟩ := h.s.j
  obtain ⟨_, _, ed, _⟩ := h.s.d.ex
  refine (hc.block g (Array.getElem?_eq_some_iff.1 e).1 (fun hs => ?_)).trans e
  rcases hS g hs with hj | hj | hj | hj
  · exact ty_ne e ej (by decide) hj
  · exact ty_ne e ed (by decide) hj
  · obtain ⟨cs2, q⟩ := h.s.d.obt hj
    exact ty_ne e q (by decide) rfl
  · obtain ⟨cs2, q⟩ := h.s.j.obt hj
    exact ty_ne e q (by decide) rfl
theorem actKept {X w1 : World} {g B : Nat} {cs : Array Value} (h : RJ X rb n prom last found T ps sf B) (e : X.heap[g]? = some (.cells cs 99)) (hc : Chg X w1 (fun j => j = rb ∨ rob X rb = some j)) : w1.heap[g]? = some (.cells cs 99) := by
  obtain ⟨_, _, pa, pcap, er, _, _, e4⟩ := h.ex
  refine (hc.block g (Array.getElem?_eq_some_iff.1 e).1 (fun hs => ?_)).trans e
  rcases hs with hj | hj
  · exact ty_ne e er (by decide) hj
  · rw [rob_eq er] at hj
    obtain ⟨cs2, q⟩ := own_t e4 hj
    exact ty_ne e q (by decide) rfl
theorem JA.jmk {X w1 : World} {k : Int} {e1 : Ending} (h : JA w X jb db rb n found T prom last ps sf safe l ms) (h1 : JMarkPost X jb db n safe prom last w.heap.size l ms k e1 w1) :
    RJ w1 rb n prom last found T ps sf w.heap.size ∧ Below w.heap.size w w1 ∧ ∀ p ∈ ps, ∀ x, p.a = some x → dob w1 db ≠ some x.block := by
  obtain ⟨_, j2, j3, g1, f1⟩ := h1
  by_cases hE : mkE n l.length prom last k = 0
  · exact h.jturn (j3 hE) g1 f1
  · exact h.jturn (j2 hE) g1 f1
set_option maxRecDepth 100000 in
set_option maxHeartbeats 4000000 in
theorem jdoes1 (h : JA w wr jb db rb n found T prom last ps sf safe l ms) (hn : n ≤ 4000) (hps : ps.length ≤ 1000) (k : Int) (st : Nat) (a : Option Addr) (cap : Nat) (ws : List Wr) (hw : WsV w a ws) (hs : st < 18446744073709551616) (hsm : smallW 10 200 ws = true) :
    Calls Try.prog 68 #[.pointer (some ⟨jb, 0, none⟩), .pointer (some ⟨rb, 0, none⟩), .agg #[.int .i64 1, .int .i64 k, .int .u64 st, .slice a ws.length cap]] wr (DoesPost w jb db rb n found T ps.length) := by
  obtain ⟨wn, hwn⟩ : ∃ x, x = ws.length := ⟨_, rfl⟩
  rw [← hwn]
  obtain ⟨W, hW⟩ : ∃ W, wr.alloc (.cells #[.int .i64 1, .int .i64 k, .int .u64 st, .slice a wn cap] 99) = W := ⟨_, rfl⟩
  obtain ⟨gb, hgb⟩ : ∃ g, g = wr.heap.size := ⟨_, rfl⟩
  have bW : Below wr.heap.size wr W := by rw [← hW]; exact below_box wr _
  have eW : W.heap[gb]? = some (.cells #[.int .i64 1, .int .i64 k, .int .u64 st, .slice a wn cap] 99) := by rw [← hW, hgb]; exact heap_new wr _
  have HJ := Lib.hid (h.below bW)
  have HM := Lib.hid (h.small hn)
  have HB := Lib.hid (And.intro (smallW_body (st := st) hsm) (smallW_body (st := max st 1) hsm))
  have HX := Lib.hid (And.intro hwn hs)
  have HPS := Lib.hid hps
  have HW := Lib.hid hW
  have HWS := Lib.hid hw
  have HEW := Lib.hid eW
  have HBW : Hid (w.heap.size ≤ W.heap.size) := Lib.hid (Nat.le_trans h.b.size bW.size)
  have HS0 : Hid (∀ w' : World, w'.heap[gb]? = some (.cells #[.int .i64 1, .int .i64 k, .int .u64 st, .slice a wn cap] 99) → w'.cell? ⟨gb, 2, none⟩ = some (.int .u64 st) ∧ w'.cell? ⟨gb, 3, none⟩ = some (.slice a wn cap)) := Lib.hid (fun w' e => ⟨by simpa using cell_of_blk e 2, by simpa using cell_of_blk e 3⟩)
  have v0 := cell_of_blk eW 0
  simp at v0
  obtain ⟨ee, he⟩ : ∃ x, x = rappE prom st ws := ⟨_, rfl⟩
  have HE := Lib.hid he
  have HE1 : Hid ((appR n l.length prom ⟨st, ws⟩).1 = ee) := Lib.hid (by rw [he]; exact (appR_rapp h.p.p0 h.p.fit.2).1)
  clear h hn hps hwn hw hs hsm hW bW eW he
  go_enter Try.func68, Try.ntmps68
  go_upto_region 1 with fail
  rw [HW.out, ← hgb]
  clear hgb
  go_upto_region 7 with fail
  refine wp_region_held_drew (S := (fun w' => w'.cell? ⟨gb, 2, none⟩ = some (.int .u64 st) ∧ w'.cell? ⟨gb, 3, none⟩ = some (.slice a wn cap))) (by kernel_rfl) (HS0.out _ HEW.out) (fun hHeld => ?_)
  obtain ⟨X, hGen⟩ : ∃ u, u = World.drew W := ⟨_, rfl⟩
  rw [← hGen] at hHeld ⊢
  have HJX : Hid (JA w X jb db rb n found T prom last ps sf safe l ms) := Lib.hid (by rw [hGen]; exact HJ.out.below (below_drewN (Below.refl _ _) 1))
  have HEX : Hid (X.heap[gb]? = some (.cells #[.int .i64 1, .int .i64 k, .int .u64 st, .slice a wn cap] 99)) := Lib.hid (by rw [hGen]; exact HEW.out)
  have HBX : Hid (w.heap.size ≤ X.heap.size) := Lib.hid (by rw [hGen]; exact HBW.out)
  clear v0
  clear hGen
  refine wpAnyH_take (i := 0) (oi := ⟨some 39, _, _, _, _, _⟩) (v := ?vvpa1) rfl (by kernel_rfl) (by kernel_rfl) (by kernel_rfl) (fun _ _ _ h => h) (Or.inl ⟨by rfl, ?yypa1⟩) hHeld ?rrpa1
  case yypa1 => (intro wq hSw; (try dsimp only at hSw); go_simp; first | done | with_reducible rfl)
  simp only [Act.put, List.setIfInBounds_toArray, List.set_cons_zero, List.set_cons_succ]
  refine wpAnyH_take (i := 1) (oi := ⟨some 40, _, _, _, _, _⟩) (v := ?vvpa2) rfl (by kernel_rfl) (by kernel_rfl) (by kernel_rfl) (fun _ _ _ h => h) (Or.inl ⟨by rfl, ?yypa2⟩) hHeld ?rrpa2
  case yypa2 => (intro wq hSw; (try dsimp only at hSw); go_simp; first | done | with_reducible rfl)
  simp only [Act.put, List.setIfInBounds_toArray, List.set_cons_zero, List.set_cons_succ]
  refine wpAnyH_take (i := 2) (oi := ⟨some 41, _, _, _, _, _⟩) (v := ?vvpa3) rfl (by kernel_rfl) (by kernel_rfl) (by kernel_rfl) (fun _ _ _ h => h) (Or.inl ⟨by rfl, ?yypa3⟩) hHeld ?rrpa3
  case yypa3 => (intro wq hSw; (try dsimp only at hSw); go_simp; first | done | with_reducible rfl)
  simp only [Act.put, List.setIfInBounds_toArray, List.set_cons_zero, List.set_cons_succ]
  refine wpAnyH_take (i := 4) (oi := ⟨some 43, _, _, _, _, _⟩) (v := ?vvpa4) rfl (by kernel_rfl) (by kernel_rfl) (by kernel_rfl) (fun _ _ _ h => h) (Or.inl ⟨by rfl, ?yypa4⟩) hHeld ?rrpa4
  case yypa4 => (intro wq hSw; (try dsimp only at hSw); go_simp; first | done | with_reducible rfl)
  simp only [Act.put, List.setIfInBounds_toArray, List.set_cons_zero, List.set_cons_succ]
  refine wpAnyH_take (i := 5) (oi := ⟨some 44, _, _, _, _, _⟩) (v := ?vvpa5) rfl (by kernel_rfl) (by kernel_rfl) (by kernel_rfl) (fun _ _ _ h => h) (Or.inl ⟨by rfl, ?yypa5⟩) hHeld ?rrpa5
  case yypa5 => (intro wq hSw; (try dsimp only at hSw); go_simp; first | done | with_reducible rfl)
  simp only [Act.put, List.setIfInBounds_toArray, List.set_cons_zero, List.set_cons_succ]
  refine wpAnyH_take (i := 6) (oi := ⟨some 45, _, _, _, _, _⟩) (v := ?vvpa6) rfl (by kernel_rfl) (by kernel_rfl) (by kernel_rfl) (fun _ _ _ h => h) (Or.inl ⟨by rfl, ?yypa6⟩) hHeld ?rrpa6
  case yypa6 => (intro wq hSw; (try dsimp only at hSw); go_simp; first | done | with_reducible rfl)
  simp only [Act.put, List.setIfInBounds_toArray, List.set_cons_zero, List.set_cons_succ]
  refine wpAnyH_ready (rs := [3]) (by kernel_rfl) (by simp) ?_
  refine AllReadyH.cons (o := ⟨some 42, _, _, _, _, _⟩) rfl (fun K hK => ?_) AllReadyH.nil
  go_simp
  refine (jAppend_any HJX.out.s HBX.out HJX.out.p.p0 (by have := HM.out.1; omega) st a cap wn ws HX.out.1 (HWS.out.below HJX.out.b) HX.out.2 (by have := HB.out.1.1; omega) (by rw [pack_len]; have := HB.out.1.2; have := HM.out.2.1; omega)).mono ?_
  rintro e w1 ⟨rfl, s1, g1, f1⟩
  rw [HE1.out]
  have E1 := HJX.out.actBox HEX.out g1 (fun _ h => h.elim .inl (fun q => q.elim (fun q => .inr (.inl q)) (fun q => .inr (.inr (.inl q)))))
  obtain ⟨r1, b1, d1⟩ := HJX.out.jturn s1 (g1.mono (fun _ _ h => h.elim .inl (fun q => q.elim (fun q => .inr (.inl q)) (fun q => .inr (.inr (.inl q)))))) f1
  have HS1 := Lib.hid s1
  have HG1 := Lib.hid g1
  have HF1 := Lib.hid f1
  have HR1 := Lib.hid r1
  have HB1 := Lib.hid b1
  have HE9 := Lib.hid E1
  clear s1 g1 f1 r1 b1 d1 E1
  dsimp only
  refine hK.out _ _ ?sspa7 (fun hHeld => ?_)
  case sspa7 => (exact HS0.out _ HE9.out)
  clear hK K
  try simp only [Act.put, List.setIfInBounds_toArray, List.set_cons_zero, List.set_cons_succ]
  refine wpAnyH_ready (rs := [7]) (by kernel_rfl) (by simp) ?_
  refine AllReadyH.cons (o := ⟨some 46, _, _, _, _, _⟩) rfl (fun K hK => ?_) AllReadyH.nil
  go_simp
  refine (j15Append_any HR1.out HJX.out.p.p0 (by have := HM.out.1; omega) (by have := HPS.out; omega) st a cap wn ws HX.out.1 (HWS.out.below HB1.out) HX.out.2 (by have := HB.out.1.1; omega) (by have := HB.out.2.2; omega) (by rw [pack_len]; have := HB.out.1.2; have := HM.out.2.2.1; omega)).mono ?_
  intro e w2 h2
  have HF := Lib.hid (HJX.out.appended HS1.out HG1.out HF1.out h2)
  have E2 : w2.heap[gb]? = some (.cells #[.int .i64 1, .int .i64 k, .int .u64 st, .slice a wn cap] 99) := actKept HR1.out HE9.out h2.2.2.2
  have HE8 := Lib.hid E2
  obtain ⟨rfl, _⟩ := h2
  rw [← HE.out]
  clear E2
  dsimp only
  refine hK.out _ _ ?sspa8 (fun hHeld => ?_)
  case sspa8 => (exact HS0.out _ HE8.out)
  clear hK K
  try simp only [Act.put, List.setIfInBounds_toArray, List.set_cons_zero, List.set_cons_succ]
  refine wpAnyH_take (i := 8) (oi := ⟨some 47, _, _, _, _, _⟩) (v := ?vvpa9) rfl (by kernel_rfl) (by kernel_rfl) (by kernel_rfl) (fun _ _ _ h => h) (Or.inl ⟨by rfl, ?yypa9⟩) hHeld ?rrpa9
  case yypa9 => (intro wq hSw; (try dsimp only at hSw); go_simp; first | done | with_reducible rfl)
  simp only [Act.put, List.setIfInBounds_toArray, List.set_cons_zero, List.set_cons_succ]
  refine wpAnyH_take (i := 9) (oi := ⟨some 6, _, _, _, _, _⟩) (v := ?vvpa10) rfl (by kernel_rfl) (by kernel_rfl) (by kernel_rfl) (fun _ _ _ h => h) (Or.inl ⟨by rfl, ?yypa10⟩) hHeld ?rrpa10
  case yypa10 => (intro wq hSw; (try dsimp only at hSw); go_simp; first | done | with_reducible rfl)
  simp only [Act.put, List.setIfInBounds_toArray, List.set_cons_zero, List.set_cons_succ]
  refine wpAnyH_done (by kernel_rfl) ?_ _
  clear hHeld
  go_wp2_with fail
  go_ret
  exact ⟨rfl, HF.out⟩
set_option maxRecDepth 100000 in
set_option maxHeartbeats 4000000 in
theorem jdoes3 (h : JA w wr jb db rb n found T prom last ps sf safe l ms) (hn : n ≤ 4000) (hps : ps.length ≤ 1000) (k : Int) (st : Nat) (a : Option Addr) (cap wn : Nat) :
    Calls Try.prog 68 #[.pointer (some ⟨jb, 0, none⟩), .pointer (some ⟨rb, 0, none⟩), .agg #[.int .i64 3, .int .i64 k, .int .u64 st, .slice a wn cap]] wr (DoesPost w jb db rb n found T ps.length) := by
  obtain ⟨W, hW⟩ : ∃ W, wr.alloc (.cells #[.int .i64 3, .int .i64 k, .int .u64 st, .slice a wn cap] 99) = W := ⟨_, rfl⟩
  obtain ⟨gb, hgb⟩ : ∃ g, g = wr.heap.size := ⟨_, rfl⟩
  have bW : Below wr.heap.size wr W := by rw [← hW]; exact below_box wr _
  have eW : W.heap[gb]? = some (.cells #[.int .i64 3, .int .i64 k, .int .u64 st, .slice a wn cap] 99) := by rw [← hW, hgb]; exact heap_new wr _
  have HJ := Lib.hid (h.below bW)
  have HM := Lib.hid (h.small hn)
  have HPS := Lib.hid hps
  have HW := Lib.hid hW
  have HEW := Lib.hid eW
  have HBW : Hid (w.heap.size ≤ W.heap.size) := Lib.hid (Nat.le_trans h.b.size bW.size)
  have HS0 : Hid (∀ w' : World, w'.heap[gb]? = some (.cells #[.int .i64 3, .int .i64 k, .int .u64 st, .slice a wn cap] 99) → w'.cell? ⟨gb, 1, none⟩ = some (.int .i64 k)) := Lib.hid (fun w' e => by simpa using cell_of_blk e 1)
  have v0 := cell_of_blk eW 0
  simp at v0
  obtain ⟨ee, he⟩ : ∃ x, x = mkE n l.length prom last k := ⟨_, rfl⟩
  have HE := Lib.hid he
  have HE2 : Hid (mkE n (T.length + pcN ps) prom last k = ee) := Lib.hid (by rw [he, h.p.len])
  clear h hn hps hW bW eW he
  go_enter Try.func68, Try.ntmps68
  go_upto_region 1 with fail
  rw [HW.out, ← hgb]
  clear hgb
  go_upto_region 14 with fail
  refine wp_region_held_drew (S := (fun w' => w'.cell? ⟨gb, 1, none⟩ = some (.int .i64 k))) (by kernel_rfl) (HS0.out _ HEW.out) (fun hHeld => ?_)
  obtain ⟨X, hGen⟩ : ∃ u, u = World.drew W := ⟨_, rfl⟩
  rw [← hGen] at hHeld ⊢
  have HJX : Hid (JA w X jb db rb n found T prom last ps sf safe l ms) := Lib.hid (by rw [hGen]; exact HJ.out.below (below_drewN (Below.refl _ _) 1))
  have HEX : Hid (X.heap[gb]? = some (.cells #[.int .i64 3, .int .i64 k, .int .u64 st, .slice a wn cap] 99)) := Lib.hid (by rw [hGen]; exact HEW.out)
  have HBX : Hid (w.heap.size ≤ X.heap.size) := Lib.hid (by rw [hGen]; exact HBW.out)
  clear v0
  clear hGen
  refine wpAnyH_take (i := 0) (oi := ⟨some 83, _, _, _, _, _⟩) (v := ?vvpb1) rfl (by kernel_rfl) (by kernel_rfl) (by kernel_rfl) (fun _ _ _ h => h) (Or.inl ⟨by rfl, ?yypb1⟩) hHeld ?rrpb1
  case yypb1 => (intro wq hSw; (try dsimp only at hSw); go_simp; first | done | with_reducible rfl)
  simp only [Act.put, List.setIfInBounds_toArray, List.set_cons_zero, List.set_cons_succ]
  refine wpAnyH_take (i := 1) (oi := ⟨some 84, _, _, _, _, _⟩) (v := ?vvpb2) rfl (by kernel_rfl) (by kernel_rfl) (by kernel_rfl) (fun _ _ _ h => h) (Or.inl ⟨by rfl, ?yypb2⟩) hHeld ?rrpb2
  case yypb2 => (intro wq hSw; (try dsimp only at hSw); go_simp; first | done | with_reducible rfl)
  simp only [Act.put, List.setIfInBounds_toArray, List.set_cons_zero, List.set_cons_succ]
  refine wpAnyH_take (i := 2) (oi := ⟨some 85, _, _, _, _, _⟩) (v := ?vvpb3) rfl (by kernel_rfl) (by kernel_rfl) (by kernel_rfl) (fun _ _ _ h => h) (Or.inl ⟨by rfl, ?yypb3⟩) hHeld ?rrpb3
  case yypb3 => (intro wq hSw; (try dsimp only at hSw); go_simp; first | done | with_reducible rfl)
  simp only [Act.put, List.setIfInBounds_toArray, List.set_cons_zero, List.set_cons_succ]
  refine wpAnyH_take (i := 4) (oi := ⟨some 87, _, _, _, _, _⟩) (v := ?vvpb4) rfl (by kernel_rfl) (by kernel_rfl) (by kernel_rfl) (fun _ _ _ h => h) (Or.inl ⟨by rfl, ?yypb4⟩) hHeld ?rrpb4
  case yypb4 => (intro wq hSw; (try dsimp only at hSw); go_simp; first | done | with_reducible rfl)
  simp only [Act.put, List.setIfInBounds_toArray, List.set_cons_zero, List.set_cons_succ]
  refine wpAnyH_take (i := 5) (oi := ⟨some 88, _, _, _, _, _⟩) (v := ?vvpb5) rfl (by kernel_rfl) (by kernel_rfl) (by kernel_rfl) (fun _ _ _ h => h) (Or.inl ⟨by rfl, ?yypb5⟩) hHeld ?rrpb5
  case yypb5 => (intro wq hSw; (try dsimp only at hSw); go_simp; first | done | with_reducible rfl)
  simp only [Act.put, List.setIfInBounds_toArray, List.set_cons_zero, List.set_cons_succ]
  refine wpAnyH_take (i := 6) (oi := ⟨some 89, _, _, _, _, _⟩) (v := ?vvpb6) rfl (by kernel_rfl) (by kernel_rfl) (by kernel_rfl) (fun _ _ _ h => h) (Or.inl ⟨by rfl, ?yypb6⟩) hHeld ?rrpb6
  case yypb6 => (intro wq hSw; (try dsimp only at hSw); go_simp; first | done | with_reducible rfl)
  simp only [Act.put, List.setIfInBounds_toArray, List.set_cons_zero, List.set_cons_succ]
  refine wpAnyH_ready (rs := [3]) (by kernel_rfl) (by simp) ?_
  refine AllReadyH.cons (o := ⟨some 86, _, _, _, _, _⟩) rfl (fun K hK => ?_) AllReadyH.nil
  go_simp
  refine (jMark_any HJX.out.s HBX.out HJX.out.p.p0 (by have := HM.out.1; omega) (by have := HM.out.2.2.2; have := HPS.out; omega) (by have := HM.out.2.1; omega) k).mono ?_
  intro e w1 h1
  have E1 := HJX.out.actBox HEX.out h1.2.2.2.1 (fun _ h => h)
  obtain ⟨r1, b1, d1⟩ := HJX.out.jmk h1
  have H1 := Lib.hid h1
  have HR1 := Lib.hid r1
  have HB1 := Lib.hid b1
  have HE9 := Lib.hid E1
  obtain ⟨rfl, _⟩ := h1
  rw [← HE.out]
  clear r1 b1 d1 E1
  dsimp only
  refine hK.out _ _ ?sspb7 (fun hHeld => ?_)
  case sspb7 => (exact HS0.out _ HE9.out)
  clear hK K
  try simp only [Act.put, List.setIfInBounds_toArray, List.set_cons_zero, List.set_cons_succ]
  refine wpAnyH_ready (rs := [7]) (by kernel_rfl) (by simp) ?_
  refine AllReadyH.cons (o := ⟨some 90, _, _, _, _, _⟩) rfl (fun K hK => ?_) AllReadyH.nil
  go_simp
  refine (j15Mark_any HR1.out HJX.out.p.p0 (by have := HM.out.1; omega) (by have := HM.out.2.2.1; omega) (by have := HPS.out; omega) k).mono ?_
  intro e w2 h2
  have HF := Lib.hid (HJX.out.marked H1.out h2)
  have E2 : w2.heap[gb]? = some (.cells #[.int .i64 3, .int .i64 k, .int .u64 st, .slice a wn cap] 99) := actKept HR1.out HE9.out h2.2.2.2
  have HE8 := Lib.hid E2
  obtain ⟨rfl, _⟩ := h2
  rw [HE2.out]
  clear E2
  dsimp only
  refine hK.out _ _ ?sspb8 (fun hHeld => ?_)
  case sspb8 => (exact HS0.out _ HE8.out)
  clear hK K
  try simp only [Act.put, List.setIfInBounds_toArray, List.set_cons_zero, List.set_cons_succ]
  refine wpAnyH_take (i := 8) (oi := ⟨some 91, _, _, _, _, _⟩) (v := ?vvpb9) rfl (by kernel_rfl) (by kernel_rfl) (by kernel_rfl) (fun _ _ _ h => h) (Or.inl ⟨by rfl, ?yypb9⟩) hHeld ?rrpb9
  case yypb9 => (intro wq hSw; (try dsimp only at hSw); go_simp; first | done | with_reducible rfl)
  simp only [Act.put, List.setIfInBounds_toArray, List.set_cons_zero, List.set_cons_succ]
  refine wpAnyH_take (i := 9) (oi := ⟨some 6, _, _, _, _, _⟩) (v := ?vvpb10) rfl (by kernel_rfl) (by kernel_rfl) (by kernel_rfl) (fun _ _ _ h => h) (Or.inl ⟨by rfl, ?yypb10⟩) hHeld ?rrpb10
  case yypb10 => (intro wq hSw; (try dsimp only at hSw); go_simp; first | done | with_reducible rfl)
  simp only [Act.put, List.setIfInBounds_toArray, List.set_cons_zero, List.set_cons_succ]
  refine wpAnyH_done (by kernel_rfl) ?_ _
  clear hHeld
  go_wp2_with fail
  go_ret
  exact ⟨rfl, HF.out⟩
theorem jdoes_any (h : JA w wr jb db rb n found T prom last ps sf safe l ms) (hn : n ≤ 4000) (hps : ps.length ≤ 1000) (kd k : Int) (st : Nat) (a : Option Addr) (cap : Nat) (ws : List Wr) (hw : WsV w a ws) (hs : st < 18446744073709551616) (hsm : smallW 10 200 ws = true) :
    Calls Try.prog 68 #[.pointer (some ⟨jb, 0, none⟩), .pointer (some ⟨rb, 0, none⟩), .agg #[.int .i64 kd, .int .i64 k, .int .u64 st, .slice a ws.length cap]] wr (DoesPost w jb db rb n found T ps.length) := by
  by_cases h0 : kd = 0
  · subst h0; exact jdoes0 h hn k st a cap ws hw hs hsm
  by_cases h1 : kd = 1
  · subst h1; exact jdoes1 h hn hps k st a cap ws hw hs hsm
  by_cases h2 : kd = 2
  · subst h2
    by_cases hb : k < 0 ∨ prom < k
    · exact jdoes2n h hn k hb st a cap _
    · exact jdoes2y h hn k (by omega) (by omega) st a cap _
  by_cases h3 : kd = 3
  · subst h3; exact jdoes3 h hn hps k st a cap _
  by_cases h4 : kd = 4
  · subst h4; exact jdoes4 h hn hps k st a cap _
  exact jdoes9 h kd k ⟨h0, h1, h2, h3, h4⟩ st a cap _
end
end Go.Proofs.Ytcghgnncmnoalaa
