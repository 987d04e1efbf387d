/- redo.Recover: what a log says; what holds between two rounds. Conditions: each lemma's own premises. redo.Recover. Conditions: each contract's own premises. -/
import Derived.Test.YtcghgnncmnoalaaSrtB
import Derived.Test.YtcghgnncmnoalaaRd12
namespace Go.Proofs.Ytcghgnncmnoalaa
open Go.RowKit Go.Maps

/-- a log, as far as it has been read -/
structure Lg where
  all : List Rc
  sure : List Rc
  last : Int
  cut : Nat
  pos : Nat
def lgB (s : Lg) (m : List UInt8) : Psd → Option Lg
  | .err _ => none
  | .rc r => some ⟨s.all ++ [r], s.sure, s.last, s.cut, s.pos + (tkN m + 10)⟩
  | .mark n => if (n : Int) ≤ s.last then none else some ⟨s.all, s.all, n, s.pos + (tkN m + 10), s.pos + (tkN m + 10)⟩
def lgStep (l : List UInt8) (s : Lg) : Option Lg :=
  if tkE (l.drop s.pos) ≠ 0 then none else lgB s (l.drop s.pos) (psB ((l.drop s.pos).getD 1 0) (tkB (l.drop s.pos)))
def lgRun (l : List UInt8) : Nat → Lg → Lg
  | 0, s => s
  | k + 1, s => match lgStep l s with | none => s | some s' => lgRun l k s'
def lgN (l : List UInt8) : Lg := lgRun l (l.length + 1) ⟨[], [], -1, 0, 0⟩
/-- records that count, by rising stamps, one of each -/
def lgOut (s : Lg) : List Rc := Srt.compL (Srt.keq Rc.stamp) ((Srt.sortK Rc.stamp s.sure).filter (fun r => !decide (s.last < ((r.stamp / 2147483648 : Nat) : Int))))
theorem lgOut_rv (sure : List Rv) (s : Lg) (h : sure.map Rv.rc = s.sure) : (Srt.compL seq ((Srt.sortK Rv.stamp sure).filter (fun x => !delB s.last x))).map Rv.rc = lgOut s := by
  unfold lgOut
  rw [← h]
  have e1 : Srt.sortK Rc.stamp (sure.map Rv.rc) = (Srt.sortK Rv.stamp sure).map Rv.rc := Srt.sortK_map Rv.rc Rc.stamp sure
  rw [e1, List.filter_map]
  have e2 : ((fun r : Rc => !decide (s.last < ((r.stamp / 2147483648 : Nat) : Int))) ∘ Rv.rc) = (fun x => !delB s.last x) := rfl
  rw [e2]
  have : ∀ m : List Rv, (Srt.compL seq m).map Rv.rc = Srt.compL (Srt.keq Rc.stamp) (m.map Rv.rc) := by
    have aux : ∀ (m : List Rv) (p : Rv), (Srt.compG seq p m).map Rv.rc = Srt.compG (Srt.keq Rc.stamp) p.rc (m.map Rv.rc) := by
      intro m
      induction m with
      | nil => intro p; rfl
      | cons x m ih =>
        intro p
        show (if seq x p = true then Srt.compG seq x m else x :: Srt.compG seq x m).map Rv.rc = (if Srt.keq Rc.stamp x.rc p.rc = true then Srt.compG (Srt.keq Rc.stamp) x.rc (m.map Rv.rc) else x.rc :: Srt.compG (Srt.keq Rc.stamp) x.rc (m.map Rv.rc))
        have e : seq x p = Srt.keq Rc.stamp x.rc p.rc := rfl
        rw [← e]
        split
        · exact ih x
        · rw [List.map_cons, ih x]
    intro m
    cases m with
    | nil => rfl
    | cons x m => show x.rc :: _ = x.rc :: _; rw [aux]
  exact this _
theorem lgRun_stop {l : List UInt8} {s : Lg} {k : Nat} (h : lgStep l s = none) : lgRun l k s = s := by
  cases k with
  | zero => rfl
  | succ k => unfold lgRun; rw [h]
theorem lgRun_step {l : List UInt8} {s s' : Lg} {k : Nat} (h : lgStep l s = some s') (hk : 0 < k) : lgRun l k s = lgRun l (k - 1) s' := by
  obtain ⟨j, rfl⟩ : ∃ j, k = j + 1 := ⟨k - 1, by omega⟩
  conv => lhs; unfold lgRun
  rw [h]; rfl
/-- a part of a row -/
theorem at_prefix {w : World} {b : Nat} {l m : List Rv} (h : kR.At w b 0 m) (hp : l <+: m) : kR.At w b 0 l := by
  obtain ⟨r, rfl⟩ := hp
  exact ⟨fun i x hx j u hu => h.cells i x (by rw [List.getElem?_append_left (List.getElem?_eq_some_iff.1 hx).1]; exact hx) j u hu, h.lt⟩
/-- between two rounds -/
structure RecI (w wr : World) (l : List UInt8) (vA : Value) (sa : Option Addr) (sc : Nat) (all sure : List Rv) (last : Int) (cut pos Bl : Nat) (R : Lg) : Prop where
  own : kR.Own wr w.heap.size vA all
  ok : ∀ x ∈ all, x.Ok wr
  apart : ∀ x ∈ all, x.ws ≠ [] → ∀ b off, x.a = some ⟨b, off, none⟩ → vA.ownBlock ≠ some b
  sat : sure ≠ [] → ∃ b, sa = some ⟨b, 0, none⟩ ∧ kR.At wr b 0 sure ∧ (vA.ownBlock = some b → sure <+: all)
  sub : ∀ x ∈ sure, x ∈ all
  las : wr.heap[Bl]? = some (.cells #[.int .i64 last] 3)
  bel : Below w.heap.size w wr
  hBl : w.heap.size ≤ Bl
  hvB : vA.ownBlock ≠ some Bl
  len : all.length ≤ pos
  slen : sure.length ≤ pos
  ple : pos ≤ l.length
  cle : cut ≤ pos
  run : ∃ k, l.length < pos + k ∧ lgRun l k ⟨all.map Rv.rc, sure.map Rv.rc, last, cut, pos⟩ = R
theorem ok_block {w w' : World} {x : Rv} (h : x.Ok w) (hb : ∀ b off, x.ws ≠ [] → x.a = some ⟨b, off, none⟩ → b < w.heap.size → w'.heap[b]? = w.heap[b]?) : x.Ok w' :=
  ⟨h.stamp, fun hn => by
    obtain ⟨b, off, e, hat⟩ := h.ws hn
    exact ⟨b, off, e, hat.of_block (hb b off hn e hat.lt)⟩, h.len⟩
theorem RecI.next {w wr u : World} {l : List UInt8} {vA : Value} {sa : Option Addr} {sc : Nat} {all sure : List Rv} {last : Int} {cut pos Bl : Nat} {R : Lg} (h : RecI w wr l vA sa sc all sure last cut pos Bl R) (hb : Below wr.heap.size wr u) : RecI w u l vA sa sc all sure last cut pos Bl R :=
  ⟨h.own.below hb, fun x hx => (h.ok x hx).below hb, h.apart, fun hn => by
    obtain ⟨b, e1, e2, e3⟩ := h.sat hn
    exact ⟨b, e1, e2.below hb, e3⟩, h.sub, (hb.block Bl (Array.getElem?_eq_some_iff.1 h.las).1).trans h.las, below_then h.bel hb, h.hBl, h.hvB, h.len, h.slen, h.ple, h.cle, h.run⟩
theorem RecI.start {w W : World} {l : List UInt8} (hW : W = w.alloc (.cells #[.int .i64 (-1)] 3)) : RecI w W l (.slice none 0 0) none 0 [] [] (-1) 0 0 w.heap.size (lgN l) := by
  subst hW
  exact ⟨RowK.Own.nil kR _ _, fun x hx => by simp at hx, fun x hx => by simp at hx, fun hn => absurd rfl hn, fun x hx => by simp at hx, heap_new w _, below_box w _, Nat.le_refl _, (fun e => by cases e), Nat.le_refl _, Nat.le_refl _, Nat.zero_le _, Nat.le_refl _, l.length + 1, by omega, rfl⟩
/-- a record more -/
theorem RecI.more {w u w' : World} {l : List UInt8} {vA v' : Value} {sa : Option Addr} {sc : Nat} {all sure : List Rv} {last : Int} {cut pos Bl : Nat} {R : Lg} (h : RecI w u l vA sa sc all sure last cut pos Bl R) (x : Rv) (hx : x.Ok u)
    (hxa : x.ws ≠ [] → ∀ b off, x.a = some ⟨b, off, none⟩ → vA.ownBlock ≠ some b) (happ : kR.App2 u w.heap.size vA (all ++ [x]) v' w') (ht : tkE (l.drop pos) = 0) (hp : psB ((l.drop pos).getD 1 0) (tkB (l.drop pos)) = .rc x.rc) (hpos : pos + (tkN (l.drop pos) + 10) ≤ l.length) :
    RecI w w' l v' sa sc (all ++ [x]) sure last cut (pos + (tkN (l.drop pos) + 10)) Bl R := by
  obtain ⟨hown, hcase⟩ := happ
  have hblk : ∀ b, b < u.heap.size → vA.ownBlock ≠ some b → w'.heap[b]? = u.heap[b]? := fun b hb hn => by
    rcases hcase with ⟨_, hg⟩ | ⟨_, hg⟩
    · exact hg.block b hb (fun e => hn e.symm)
    · exact hg.block b hb (fun e => by cases e)
  have hbel : Below w.heap.size u w' := by
    rcases hcase with ⟨_, hg⟩ | ⟨_, hg⟩
    · exact ⟨hg.os, hg.tape, hg.output, hg.size, fun k hk => hg.block k (Nat.lt_of_lt_of_le hk h.bel.size) (fun e => by have := (h.own.lt _ e.symm).1; omega)⟩
    · exact ⟨hg.os, hg.tape, hg.output, hg.size, fun k hk => hg.block k (Nat.lt_of_lt_of_le hk h.bel.size) (fun e => by cases e)⟩
  have hlas := (Array.getElem?_eq_some_iff.1 h.las).1
  refine ⟨hown, fun y hy => ?_, fun y hy hn b off e => ?_, fun hn => ?_, fun y hy => List.mem_append.2 (.inl (h.sub y hy)), (hblk Bl hlas h.hvB).trans h.las, h.bel.trans hbel, h.hBl, ?_, by rw [List.length_append]; have := h.len; simp; omega, by have := h.slen; omega, hpos, by have := h.cle; omega, ?_⟩
  · rcases List.mem_append.1 hy with hy | hy
    · exact ok_block (h.ok y hy) fun b off hn e hb => hblk b hb (h.apart y hy hn b off e)
    · simp at hy; subst hy
      exact ok_block hx fun b off hn e hb => hblk b hb (hxa hn b off e)
  · have hv : vA.ownBlock ≠ some b ∧ b < u.heap.size := by
      rcases List.mem_append.1 hy with hy | hy
      · obtain ⟨b', off', e', hat⟩ := (h.ok y hy).ws hn
        rw [e] at e'; injection e' with e'; injection e' with e1 e2; subst e1
        exact ⟨h.apart y hy hn b off e, hat.lt⟩
      · simp at hy; subst hy
        obtain ⟨b', off', e', hat⟩ := hx.ws hn
        rw [e] at e'; injection e' with e'; injection e' with e1 e2; subst e1
        exact ⟨hxa hn b off e, hat.lt⟩
    rcases hcase with ⟨e2, _⟩ | ⟨e2, _⟩
    · rw [e2]; exact hv.1
    · rw [e2]; intro e3; injection e3 with e3; omega
  · obtain ⟨b, e1, e2, e3⟩ := h.sat hn
    rcases hcase with ⟨ev, hg⟩ | ⟨ev, hg⟩
    · by_cases hvb : vA.ownBlock = some b
      · have hpre := e3 hvb
        obtain ⟨g, cp, hv, _, _, hat⟩ := hown.at' (by simp)
        have hgb : g = b := by
          rw [hvb, hv] at ev
          injection ev
        subst hgb
        exact ⟨g, e1, at_prefix hat (hpre.trans (List.prefix_append _ _)), fun _ => hpre.trans (List.prefix_append _ _)⟩
      · exact ⟨b, e1, e2.of_block (hg.block b e2.lt (fun e => hvb e.symm)), fun e => absurd (ev.symm.trans e) hvb⟩
    · exact ⟨b, e1, e2.of_block (hg.block b e2.lt (fun e => by cases e)), fun e => by
        rw [ev] at e; injection e with e
        have := e2.lt; omega⟩
  · rcases hcase with ⟨e2, _⟩ | ⟨e2, _⟩
    · rw [e2]; exact h.hvB
    · rw [e2]; intro e3; injection e3 with e3; omega
  · obtain ⟨k, hk, hr⟩ := h.run
    have hpl := h.ple
    refine ⟨k - 1, by omega, ?_⟩
    refine Eq.trans (lgRun_step (s' := ⟨(all ++ [x]).map Rv.rc, sure.map Rv.rc, last, cut, pos + (tkN (l.drop pos) + 10)⟩) ?_ (by omega)).symm hr
    unfold lgStep
    rw [if_neg (by simp [ht]), hp]
    simp [lgB]
/-- a mark -/
theorem RecI.mark {w u w' : World} {l : List UInt8} {a : Option Addr} {ac : Nat} {sa : Option Addr} {sc : Nat} {all sure : List Rv} {last : Int} {cut pos Bl : Nat} {R : Lg} (n : Nat) (h : RecI w u l (.slice a all.length ac) sa sc all sure last cut pos Bl R)
    (hw : w' = u.setCell ⟨Bl, 0, none⟩ (.int .i64 (n : Int))) (ht : tkE (l.drop pos) = 0) (hp : psB ((l.drop pos).getD 1 0) (tkB (l.drop pos)) = .mark n) (hn : ¬ (n : Int) ≤ last) (hpos : pos + (tkN (l.drop pos) + 10) ≤ l.length) :
    RecI w w' l (.slice a all.length ac) a ac all all (n : Int) (pos + (tkN (l.drop pos) + 10)) (pos + (tkN (l.drop pos) + 10)) Bl R := by
  have hlas := (Array.getElem?_eq_some_iff.1 h.las).1
  have hblk : ∀ b, b ≠ Bl → w'.heap[b]? = u.heap[b]? := fun b hb => by rw [hw]; exact Below.heap_setCell _ _ _ _ (fun e => hb (by simpa using e))
  have hown : kR.Own w' w.heap.size (.slice a all.length ac) all := ownsRow_of_block h.own (fun j hj => hblk j (fun e => h.hvB (by rw [← e]; exact hj)))
  have hok : ∀ x ∈ all, x.Ok w' := fun y hy => ok_block (h.ok y hy) fun b off hn e hb => by
    by_cases hbb : b = Bl
    · subst hbb
      obtain ⟨b', off', e', hat⟩ := (h.ok y hy).ws hn
      rw [e] at e'; injection e' with e'; injection e' with e1 e2; subst e1
      obtain ⟨x0, hx0⟩ : ∃ x0, y.ws[0]? = some x0 := by
        cases hh : y.ws with
        | nil => exact absurd hh hn
        | cons z m => exact ⟨z, rfl⟩
      have := (hat.cells 0 x0 hx0).2 1 (.int .i64 x0.k.a) rfl
      rw [cell_of_blk h.las] at this
      have h2 : (#[Value.int .i64 last])[off' + 0 * 6 + 1]? = none := by simp
      rw [h2] at this; cases this
    · exact hblk b hbb
  refine ⟨hown, hok, h.apart, fun hne => ?_, fun _ h => h, by rw [hw, blk_setCell h.las]; rfl, h.bel.trans (by rw [hw]; exact (Below.refl _ _).setCell (p := ⟨Bl, 0, none⟩) h.hBl _), h.hBl, h.hvB, by have := h.len; omega, by have := h.len; omega, hpos, Nat.le_refl _, ?_⟩
  · obtain ⟨g, cp, hv, _, _, hat⟩ := hown.at' hne
    injection hv with e1 e2 e3
    exact ⟨g, e1, hat, fun _ => List.prefix_refl _⟩
  · obtain ⟨k, hk, hr⟩ := h.run
    have hpl := h.ple
    refine ⟨k - 1, by omega, ?_⟩
    refine Eq.trans (lgRun_step (s' := ⟨all.map Rv.rc, all.map Rv.rc, (n : Int), pos + (tkN (l.drop pos) + 10), pos + (tkN (l.drop pos) + 10)⟩) ?_ (by omega)).symm hr
    unfold lgStep
    rw [if_neg (by simp [ht]), hp]
    simp [lgB, hn]
/-- no step further -/
theorem RecI.stop {w u : World} {l : List UInt8} {vA : Value} {sa : Option Addr} {sc : Nat} {all sure : List Rv} {last : Int} {cut pos Bl : Nat} {R : Lg} (h : RecI w u l vA sa sc all sure last cut pos Bl R)
    (hs : tkE (l.drop pos) ≠ 0 ∨ (∃ c, psB ((l.drop pos).getD 1 0) (tkB (l.drop pos)) = .err c) ∨ ∃ n : Nat, psB ((l.drop pos).getD 1 0) (tkB (l.drop pos)) = .mark n ∧ (n : Int) ≤ last) : R = ⟨all.map Rv.rc, sure.map Rv.rc, last, cut, pos⟩ := by
  obtain ⟨k, hk, hr⟩ := h.run
  rw [← hr]
  refine lgRun_stop ?_
  unfold lgStep
  rcases hs with h1 | ⟨c, h1⟩ | ⟨n, h1, h2⟩
  · rw [if_pos h1]
  · split
    · rfl
    · rw [h1]; rfl
  · split
    · rfl
    · rw [h1]; simp [lgB, h2]
theorem RecI.sureV {w u : World} {l : List UInt8} {vA : Value} {sa : Option Addr} {sc : Nat} {all sure : List Rv} {last : Int} {cut pos Bl : Nat} {R : Lg} (h : RecI w u l vA sa sc all sure last cut pos Bl R) : RsV u sa sure := fun hn => by
  obtain ⟨b, e1, e2, _⟩ := h.sat hn
  refine ⟨b, 0, e1, ⟨fun i x hx => ⟨h.ok x (h.sub x (List.mem_of_getElem? hx)), ?_, ?_⟩, e2.lt⟩⟩
  · exact e2.cells i x hx 0 _ rfl
  · exact e2.cells i x hx 1 _ rfl
end Go.Proofs.Ytcghgnncmnoalaa
namespace Go.Proofs.Ytcghgnncmnoalaa
open Go.RowKit Go.Maps

theorem wpList_sliceB {ops : Array Oper} {rest : List Oper} {o : Oper} {act : Act} {w : World} {Q : Exit → Act → World → Prop} (hgd : o.guard = none) (x i : Operand) (ho : o.op = .slice 22 x (some i) none none)
    (sa : Option Addr) (len cap k : Nat) (hx : act.eval x = .slice sa len cap) (hi : act.eval i = .int .i64 (k : Int)) (h1 : k ≤ len) (h2 : len ≤ cap) {a1 : Option Addr} {n1 c1 : Nat} (e1 : sfx sa cap k = a1) (e2 : len - k = n1) (e3 : cap - k = c1)
    (hK : wpList Try.prog ops Q rest (act.put o.dst (.slice a1 n1 c1)) w) : wpList Try.prog ops Q (o :: rest) act w := by
  subst e1 e2 e3
  refine wpList_plain hgd fun K' hK' => ?_
  have hr := run_sliceB sa cap len k h1 h2 w
  unfold Oper.wp execOp
  simp only [ho, Option.map_some, Option.map_none, hx, hi, Sem.run_bind, Sem.run_pure, hr, Result.andThen_ok]
  exact hK' _ _ hK
theorem psB_err {k : UInt8} {l : List UInt8} {c : Int} (h : psB k l = .err c) : c = 10 ∨ c = 22 := by
  unfold psB at h
  split at h
  · unfold psR at h
    split at h
    · injection h with h; exact .inl h.symm
    · split at h
      · injection h with h; exact .inl h.symm
      · cases h
  · split at h
    · unfold psM at h
      split at h
      · injection h with h; exact .inl h.symm
      · split at h
        · injection h with h; exact .inl h.symm
        · cases h
    · injection h with h; exact .inr h.symm
theorem psB_mark {k : UInt8} {l : List UInt8} {n : Nat} (h : psB k l = .mark n) : n ≤ 2147483647 := by
  unfold psB at h
  split at h
  · unfold psR at h
    split at h
    · cases h
    · split at h <;> cases h
  · split at h
    · unfold psM at h
      split at h
      · cases h
      · split at h
        · cases h
        · rename_i hc
          injection h with h
          simp at hc
          omega
    · cases h
theorem tk_len {m : List UInt8} (h : tkE m = 0) : tkN m + 10 ≤ m.length := by
  unfold tkE at h
  split at h
  · cases h
  · split at h
    · cases h
    · split at h
      · cases h
      · split at h
        · cases h
        · split at h
          · cases h
          · omega
theorem tkB_le (m : List UInt8) : (tkB m).length ≤ m.length := by unfold tkB; simp; omega
theorem sfx_bsV {w : World} {a : Option Addr} {cap k : Nat} {l : List UInt8} (h : BsV w a l) (hk : k ≤ l.length) (hc : l.length ≤ cap) : BsV w (sfx a cap k) (l.drop k) := fun hn => by
  have hlt : k < l.length := Classical.byContradiction fun hh => hn (List.drop_eq_nil_of_le (by omega))
  obtain ⟨b, off, e, hat⟩ := h (fun e => by rw [e] at hlt; simp at hlt)
  refine ⟨b, off + k, ?_, hat.drop k⟩
  unfold sfx
  rw [if_neg (by omega), e]
  simp [Addr.add]
theorem take_at (a1 : Option Addr) (c1 n1 : Nat) (m : List UInt8) (w : World) (h : BsV w a1 m) (hn : n1 = m.length) (hl : m.length ≤ 3000000) (hc : n1 ≤ c1) : Calls Try.prog 75 #[.slice a1 n1 c1] w (TkbPost w m) := by
  subst hn; exact btake_any a1 c1 m w h hl hc
theorem parse_at (k : UInt8) (kn : Nat) (hk : bv k = .int .u8 (kn : Int)) (a : Option Addr) (cap n : Nat) (l : List UInt8) (w : World) (hn : n = l.length) (h : BsV w a l) (hcap : n ≤ cap) (ha : (a = none ∧ cap = 0) ∨ ∃ b off, a = some ⟨b, off, none⟩ ∧ b < w.heap.size) (hl : l.length ≤ 3000000) :
    Calls Try.prog 22 #[.agg #[.int .u8 (kn : Int), .slice a n cap]] w (ParPost w (psB k l)) := by
  subst hn
  rw [← hk]
  exact parse_any k a cap l w h hcap ha hl
/-- what recovering leaves -/
def RecvPost (w : World) (l : List UInt8) (e : Ending) (w' : World) : Prop :=
  ∃ v rs, e = .returned (.tuple #[v, .int .i64 (lgN l).last, .int .i64 ((lgN l).cut : Nat)]) ∧ RsN w' w.heap.size v rs ∧ (∀ x ∈ rs, x.Ok w') ∧ rs.map Rv.rc = lgOut (lgN l) ∧ Below w.heap.size w w'
theorem RsN.mono {w : World} {B B' : Nat} {v : Value} {l : List Rv} (h : RsN w B v l) (hB : B' ≤ B) : RsN w B' v l := by
  rcases h with h | ⟨g, cap, h1, h2, h3, h4⟩
  · exact .inl h
  · exact .inr ⟨g, cap, h1, by omega, h3, h4⟩
theorem RsN.own_ge {w : World} {B j : Nat} {v : Value} {l : List Rv} (h : RsN w B v l) (e : v.ownBlock = some j) : B ≤ j := by
  rcases h with ⟨h1, _⟩ | ⟨g, cap, h1, h2, _, _⟩
  · rw [h1] at e; cases e
  · have e' : g = j := by rw [h1] at e; simpa [Value.ownBlock] using e
    omega
theorem compL_len (l : List Rv) : (Srt.compL seq l).length ≤ l.length := (Srt.compL_sublist Rv.stamp l).length_le
set_option maxRecDepth 100000 in
set_option maxHeartbeats 8000000 in
theorem recover_any (a : Option Addr) (cap : Nat) (l : List UInt8) (w : World) (h : BsV w a l) (hcap : l.length ≤ cap) (hl : l.length ≤ 1000000) :
    Calls Try.prog 16 #[.slice a l.length cap] w (RecvPost w l) := by
  have HB := Lib.hid h
  obtain ⟨W, hW⟩ : ∃ W, W = w.alloc (.cells #[.int .i64 (-1)] 3) := ⟨_, rfl⟩
  obtain ⟨Bl, hBl⟩ : ∃ Bl, Bl = w.heap.size := ⟨_, rfl⟩
  obtain ⟨R, hR⟩ : ∃ R, R = lgN l := ⟨_, rfl⟩
  have hI : RecI w W l (.slice none 0 0) none 0 [] [] (-1) 0 0 Bl R := by rw [hBl, hR]; exact RecI.start hW
  have HI0 := Lib.hid hI
  have HW := Lib.hid hW
  have HBl := Lib.hid hBl
  have HR := Lib.hid hR
  clear h hW hBl hI hR
  unfold RecvPost
  rw [← HR.out]
  go_enter Try.func16, Try.ntmps16
  go_upto_region 2 with fail
  go_wp2_with fail
  rw [← HW.out, ← HBl.out]
  go_loopw [5, 6, 8, 9] (fun vA vS vC vP wr => ∃ (aa : Option Addr) (ac : Nat) (sa : Option Addr) (sc : Nat) (all sure : List Rv) (last : Int) (cut pos : Nat), vA = .slice aa all.length ac ∧ vS = .slice sa sure.length sc ∧ vC = .int .i64 cut ∧ vP = .int .i64 pos ∧ pos ≤ l.length ∧ Hid (RecI w wr l vA sa sc all sure last cut pos Bl R)) (fun _ _ _ p _ => l.length - (intOf p).toNat)
  case atStart => exact ⟨none, 0, none, 0, [], [], -1, 0, 0, rfl, rfl, rfl, rfl, Nat.zero_le _, HI0⟩
  case round =>
    obtain ⟨aa, ac, sa, sc, all, sure, last, cut, pos, rfl, rfl, rfl, rfl, hpl, HI⟩ := hrel
    clear HI0 HW
    obtain ⟨m, hm⟩ : ∃ m, m = l.drop pos := ⟨_, rfl⟩
    obtain ⟨a1, ha1⟩ : ∃ a1, sfx a cap pos = a1 := ⟨_, rfl⟩
    obtain ⟨n1, hn1⟩ : ∃ n1, l.length - pos = n1 := ⟨_, rfl⟩
    obtain ⟨c1, hc1⟩ : ∃ c1, cap - pos = c1 := ⟨_, rfl⟩
    have HA1 := Lib.hid ha1
    have HN1 := Lib.hid hn1
    have HC1 := Lib.hid hc1
    have HM := Lib.hid hm
    have HML : Hid (n1 = m.length ∧ m.length ≤ 1000000 ∧ n1 ≤ c1) := Lib.hid (by rw [hm]; simp; omega)
    have HBM : Hid (BsV wr a1 m) := Lib.hid (by rw [← ha1, hm]; exact sfx_bsV (HB.out.below HI.out.bel) hpl hcap)
    clear ha1 hn1 hc1 hm
    go_wp2_with (refine wpList_sliceB (o := ⟨some 18, _, _, _, _, _⟩) rfl (.tmp 16) (.tmp 17) rfl a l.length cap pos rfl rfl hpl hcap HA1.out HN1.out HC1.out ?_)
    (with_reducible refine (take_at a1 c1 n1 m _ HBM.out HML.out.1 (by have := HML.out.2.1; omega) HML.out.2.2).mono ?_)
    rintro e w1 ⟨b1, hT⟩
    have HI1 := Lib.hid (HI.out.next b1)
    clear HI HBM
    obtain ⟨tn, htn⟩ : ∃ tn, tkN m + 10 = tn := ⟨_, rfl⟩
    rw [htn] at hT
    have HTN := Lib.hid htn
    have HVL : Hid (∀ g, (Value.slice aa all.length ac).ownBlock = some g → g < w1.heap.size) := Lib.hid (fun g e => (HI1.out.own.lt g e).2)
    clear htn
    rcases hT with ⟨t0, v2, rfl, o2⟩ | ⟨t0, rfl⟩
    · obtain ⟨a2, c2, hv2⟩ := o2.shape
      subst hv2
      have HO2 := Lib.hid o2
      obtain ⟨m2, hm2⟩ : ∃ m2, (tkB m).length = m2 := ⟨_, rfl⟩
      rw [hm2]
      have HM2 := Lib.hid hm2
      obtain ⟨kn, hkn⟩ : ∃ n, n = (m.getD 1 0).toNat := ⟨_, rfl⟩
      have hbv : bv (m.getD 1 0) = .int .u8 (kn : Int) := by rw [hkn]; rfl
      rw [hbv]
      have HBV := Lib.hid hbv
      have HT0 := Lib.hid t0
      obtain ⟨V, hV⟩ : ∃ V, V = w1.alloc (.cells #[.int .u8 (kn : Int), .slice a2 m2 c2] 43) := ⟨_, rfl⟩
      have hBV : Below w1.heap.size w1 V := by rw [hV]; exact below_box w1 _
      have eV : V.heap[w1.heap.size]? = some (.cells #[.int .u8 (kn : Int), .slice a2 m2 c2] 43) := by rw [hV]; exact heap_new w1 _
      have k0 : V.cell? ⟨w1.heap.size, 0, none⟩ = some (.int .u8 (kn : Int)) := cell_of_blk eV 0
      have k1 : V.cell? ⟨w1.heap.size, 1, none⟩ = some (.slice a2 m2 c2) := cell_of_blk eV 1
      obtain ⟨bx, hbx⟩ : ∃ bx, bx = w1.heap.size := ⟨_, rfl⟩
      rw [← hbx] at k0 k1
      have HV := Lib.hid hV
      have HBX := Lib.hid hbx
      have HI2 := Lib.hid (HI1.out.next hBV)
      have HPA : Hid ((a2 = none ∧ c2 = 0) ∨ ∃ b off, a2 = some ⟨b, off, none⟩ ∧ b < V.heap.size) := Lib.hid (by
        rcases o2.2 with ⟨h1, h2⟩ | ⟨g, cp, cur, h1, h2, h3, h4, _⟩
        · injection h1 with e1 e2 e3; exact .inl ⟨e1, e3⟩
        · injection h1 with e1 e2 e3
          exact .inr ⟨g, 0, e1, Nat.lt_of_lt_of_le (Array.getElem?_eq_some_iff.1 h3).1 hBV.size⟩)
      have HPC : Hid (m2 ≤ c2 ∧ BsV V a2 (tkB m)) := Lib.hid ⟨by
        rcases o2.2 with ⟨h1, h2⟩ | ⟨g, cp, cur, h1, h2, h3, h4, _⟩
        · injection h1 with e1 e2 e3; omega
        · injection h1 with e1 e2 e3; omega, (BsO.bsV o2).below hBV⟩
      have HPL : Hid ((tkB m).length ≤ 3000000) := Lib.hid (by have := tkB_le m; have := HML.out.2.1; omega)
      clear hm2 hkn hbv hV hBV eV hbx o2 t0 HI1
      go_upto_region 4 with fail
      rw [← HV.out, ← HBX.out]
      go_wp2_with fail
      (with_reducible refine (parse_at (m.getD 1 0) kn HBV.out a2 c2 m2 (tkB m) _ HM2.out.symm HPC.out.2 HPC.out.1 HPA.out HPL.out).mono ?_)
      rintro e w3 ⟨b3, hP⟩
      have HI3 := Lib.hid (HI2.out.next b3)
      obtain ⟨p, hp⟩ : ∃ p, psB (m.getD 1 0) (tkB m) = p := ⟨_, rfl⟩
      rw [hp] at hP
      have HP := Lib.hid hp
      clear hp b3 HI2 k0 k1
      have HTL : Hid (tkN m + 10 ≤ m.length) := Lib.hid (tk_len HT0.out)
      cases p with
      | err c =>
        have he : e = .returned (.tuple #[.agg #[.int .u64 0, .slice none 0 0], .int .i64 0, .int .i64 c]) := hP
        subst he
        clear hP
        have hc0 : (c != 0) = true := by rcases psB_err HP.out with rfl | rfl <;> decide
        have HST0 : Hid (R = ⟨all.map Rv.rc, sure.map Rv.rc, last, cut, pos⟩) := Lib.hid (HI3.out.stop (by rw [← HM.out]; exact .inr (.inl ⟨c, HP.out⟩)))
        obtain ⟨u, hu⟩ : ∃ u, u = w3.alloc (.cells #[.int .u64 0, .slice none 0 0] 35) := ⟨_, rfl⟩
        have HIF : Hid (RecI w u l (.slice aa all.length ac) sa sc all sure last cut pos Bl R) := Lib.hid (by rw [hu]; exact HI3.out.next (below_box w3 _))
        have HU := Lib.hid hu
        clear hu HI3
        go_upto_region 11 with fail
        rw [← HU.out]
        have HSV := Lib.hid HIF.out.sureV
        have HSL : Hid (sure.length ≤ 1000000) := Lib.hid (by have := HIF.out.slen; omega)
        have HLB : Hid (Bl < u.heap.size) := Lib.hid (Array.getElem?_eq_some_iff.1 HIF.out.las).1
        go_wp2_with fail
        (with_reducible refine (dsorted_any sa sc sure HSL.out _ HSV.out).mono ?_)
        rintro e y1 ⟨v1, rfl, q1, q2, q3⟩
        obtain ⟨S1, hS1⟩ : ∃ S1, S1 = Srt.sortK Rv.stamp sure := ⟨_, rfl⟩
        rw [← hS1] at q1 q2
        have HS1 := Lib.hid hS1
        have HSL1 : Hid (S1.length ≤ 1000000) := Lib.hid (by rw [hS1, sortK_len]; exact HSL.out)
        have HQ := Lib.hid (And.intro q1 (And.intro q2 q3))
        have HC1 : Hid (y1.cell? ⟨Bl, 0, none⟩ = some (.int .i64 last)) := Lib.hid ((q3.cell (p := ⟨Bl, 0, none⟩) HLB.out).trans (cell_of_blk HIF.out.las 0))
        have HV1 : Hid (v1.ownBlock ≠ some Bl) := Lib.hid (fun e => by have := q1.own_ge e; have := HLB.out; omega)
        clear q1 q2 q3 hS1
        go_wp2_with fail
        (with_reducible refine (delR_any v1 S1 Bl last _ u.heap.size HQ.out.1 HQ.out.2.1 HSL1.out (Nat.lt_of_lt_of_le HLB.out HQ.out.2.2.size) HV1.out HC1.out).mono ?_)
        rintro e y2 ⟨v2, rfl, q1, q2⟩
        obtain ⟨S2, hS2⟩ : ∃ S2, S2 = S1.filter (fun x => !delB last x) := ⟨_, rfl⟩
        rw [← hS2] at q1
        have HS2 := Lib.hid hS2
        have HSL2 : Hid (S2.length ≤ 1000000) := Lib.hid (by rw [hS2]; exact Nat.le_trans (List.length_filter_le _ _) HSL1.out)
        have HQ1 : Hid (Below u.heap.size u y2) := Lib.hid (HQ.out.2.2.trans (q2.below HQ.out.2.2.size (fun i e => HQ.out.1.own_ge e)))
        have HQ2 : Hid (RsN y2.drew u.heap.size v2 S2) := Lib.hid (q1.block (fun _ _ => rfl))
        have HC2 : Hid (y2.drew.cell? ⟨Bl, 0, none⟩ = some (.int .i64 last)) := Lib.hid (((HQ1.out.drew).cell (p := ⟨Bl, 0, none⟩) HLB.out).trans (cell_of_blk HIF.out.las 0))
        have HV2 : Hid (∀ g, v2.ownBlock = some g → u.heap.size ≤ g) := Lib.hid (fun g e => q1.own_ge e)
        clear q1 q2 hS2
        go_wp2_with fail
        go_region_held3 (fun w' => w'.cell? ⟨Bl, 0, none⟩ = some (.int .i64 last))
          (first | exact HC2.out | exact HC3.out)
          ((go_at_call 80; (with_reducible refine (comR_any v2 S2 _ u.heap.size HQ2.out HSL2.out).mono ?_); rintro e y3 ⟨v3, rfl, q1, q2⟩; have HQ3 := Lib.hid (And.intro q1 q2); have HQ4 : Hid (Below u.heap.size u y3) := Lib.hid (HQ1.out.drew.trans (q2.below HQ1.out.size (fun i e => HV2.out i e))); have HC3 : Hid (y3.cell? ⟨Bl, 0, none⟩ = some (.int .i64 last)) := Lib.hid ((HQ4.out.cell (p := ⟨Bl, 0, none⟩) HLB.out).trans (cell_of_blk HIF.out.las 0)); clear q1 q2))
        go_wp2_with fail
        go_ret3
        have hsub : ∀ x ∈ Srt.compL seq S2, x ∈ sure := fun x hx => by
          have h1 := Srt.compL_sub Rv.stamp S2 x hx
          rw [HS2.out] at h1
          have h2 := (List.mem_filter.1 h1).1
          rw [HS1.out] at h2
          exact sortK_mem h2
        refine ⟨v3, Srt.compL seq S2, ?_, HQ3.out.1.mono HIF.out.bel.size, fun x hx => (HIF.out.ok x (HIF.out.sub x (hsub x hx))).below HQ4.out, ?_, below_then HIF.out.bel HQ4.out⟩
        · rw [HST0.out]; rfl
        · rw [HST0.out, HS2.out, HS1.out]
          exact lgOut_rv sure ⟨all.map Rv.rc, sure.map Rv.rc, last, cut, pos⟩ rfl
      | rc r =>
        obtain ⟨v4, he, o4, hk4, hs4, hl4⟩ := hP
        subst he
        obtain ⟨a4, c4, hv4⟩ := o4.shape
        subst hv4
        obtain ⟨st, hst⟩ : ∃ st, st = r.stamp := ⟨_, rfl⟩
        obtain ⟨n4, hn4⟩ : ∃ n4, n4 = r.ws.length := ⟨_, rfl⟩
        rw [← hst, ← hn4]
        have HST := Lib.hid hst
        have HN4 := Lib.hid hn4
        obtain ⟨u, hu⟩ : ∃ u, u = w3.alloc (.cells #[.int .u64 st, .slice a4 n4 c4] 35) := ⟨_, rfl⟩
        have hBU : Below w3.heap.size w3 u := by rw [hu]; exact below_box w3 _
        have eU : u.heap[w3.heap.size]? = some (.cells #[.int .u64 st, .slice a4 n4 c4] 35) := by rw [hu]; exact heap_new w3 _
        have k0 : u.cell? ⟨w3.heap.size, 0, none⟩ = some (.int .u64 st) := cell_of_blk eU 0
        have k1 : u.cell? ⟨w3.heap.size, 1, none⟩ = some (.slice a4 n4 c4) := cell_of_blk eU 1
        obtain ⟨bz, hbz⟩ : ∃ bz, bz = w3.heap.size := ⟨_, rfl⟩
        rw [← hbz] at k0 k1
        have HU := Lib.hid hu
        have HBZ := Lib.hid hbz
        have hXO : (⟨st, a4, c4, r.ws⟩ : Rv).Ok u := ⟨by rw [hst]; exact hs4, (ws_of_row o4.toV hk4).below hBU, by show r.ws.length ≤ _; omega⟩
        have HXO := Lib.hid hXO
        have HX3 : Hid (∀ b off, r.ws ≠ [] → a4 = some ⟨b, off, none⟩ → w1.heap.size < b) := Lib.hid (fun b off hn e => by
          obtain ⟨g, cp, hv, hg, _⟩ := o4.at' hn
          injection hv with e1 e2 e3
          rw [e1] at e; injection e with e; injection e with e4 e5
          have hz : V.heap.size = w1.heap.size + 1 := by rw [HV.out]; simp
          omega)
        have HI4 := Lib.hid (HI3.out.next hBU)
        clear hu hbz hst hn4 eU hBU hXO o4 hk4 hs4 hl4 HI3
        go_upto_region 6 with fail
        rw [← HU.out, ← HBZ.out]
        obtain ⟨V2, hV2⟩ : ∃ V2, V2 = u.alloc (.cells #[.int .u64 st, .slice a4 n4 c4] 35) := ⟨_, rfl⟩
        have eV2 : V2.heap[u.heap.size]? = some (.cells #[.int .u64 st, .slice a4 n4 c4] 35) := by rw [hV2]; exact heap_new u _
        have HB2 : Hid (Below u.heap.size u V2) := Lib.hid (by rw [hV2]; exact below_box u _)
        have HXV : Hid (kR.V V2 (some ⟨u.heap.size, 0, none⟩) [⟨st, a4, c4, r.ws⟩]) := Lib.hid (fun _ => ⟨_, 0, rfl, RowK.new_at (k := kR) eV2 (by rw [HN4.out]; rfl)⟩)
        obtain ⟨by2, hby2⟩ : ∃ by2, by2 = u.heap.size := ⟨_, rfl⟩
        have HV2 := Lib.hid hV2
        have HBY := Lib.hid hby2
        have HI5 := Lib.hid (HI4.out.next HB2.out)
        have HLEN : Hid (all.length ≤ 1000000) := Lib.hid (by have := HI5.out.len; omega)
        rw [← hby2] at HXV
        clear hV2 eV2 hby2 HI4
        have hposz : pos + tn ≤ l.length := by have := HTL.out; have := HML.out.1; have := HN1.out; have := HTN.out; omega
        go_wp2_with ((at_builtin; rw [← HV2.out, ← HBY.out]; refine RowK.wpList_app2 (k := kR) (B := w.heap.size) (v := .slice aa all.length ac) (l := all) rfl (.tmp 47) (.tmp 49) rfl rfl HI5.out.own ⟨by2, 0, none⟩ 1 [⟨st, a4, c4, r.ws⟩] 1 rfl rfl HXV.out (by simp) (by have := HLEN.out; simp; omega) HI5.out.bel.size ?_; rintro v9 w9 h9; have H9 := Lib.hid h9; clear h9))
        obtain ⟨a9, c9, hv9⟩ := H9.out.1.shape
        have HI6 : Hid (RecI w w9 l v9 sa sc (all ++ [⟨st, a4, c4, r.ws⟩]) sure last cut (pos + tn) Bl R) := Lib.hid (by
          rw [← HTN.out, HM.out]
          refine HI5.out.more _ (HXO.out.below HB2.out) (fun hn b off e => fun e2 => ?_) H9.out (by rw [← HM.out]; exact HT0.out) (by rw [← HM.out, HP.out]; show Psd.rc r = Psd.rc ⟨st, r.ws⟩; rw [HST.out]) (by rw [← HM.out, HTN.out]; exact hposz)
          have := HX3.out b off hn e
          have := HVL.out b e2
          omega)
        subst hv9
        exact ⟨⟨a9, c9, sa, sc, all ++ [⟨st, a4, c4, r.ws⟩], sure, last, cut, pos + tn, rfl, rfl, rfl, by go_num, hposz, HI6⟩, by have := HTN.out; simp [intOf]; omega⟩
      | mark n =>
        have he : e = .returned (.tuple #[.agg #[.int .u64 0, .slice none 0 0], .int .i64 (n : Nat), .int .i64 0]) := hP
        subst he
        clear hP
        obtain ⟨u, hu⟩ : ∃ u, u = w3.alloc (.cells #[.int .u64 0, .slice none 0 0] 35) := ⟨_, rfl⟩
        have HIF : Hid (RecI w u l (.slice aa all.length ac) sa sc all sure last cut pos Bl R) := Lib.hid (by rw [hu]; exact HI3.out.next (below_box w3 _))
        have HU := Lib.hid hu
        have k0 : u.cell? ⟨Bl, 0, none⟩ = some (.int .i64 last) := cell_of_blk HIF.out.las 0
        have f0 := frozen_of_blk HIF.out.las 0
        have hn0 : (0 : Int) ≤ (n : Int) := by omega
        have hposz : pos + tn ≤ l.length := by have := HTL.out; have := HML.out.1; have := HN1.out; have := HTN.out; omega
        by_cases hnl : (n : Int) ≤ last
        · have HST0 : Hid (R = ⟨all.map Rv.rc, sure.map Rv.rc, last, cut, pos⟩) := Lib.hid (HI3.out.stop (by rw [← HM.out]; exact .inr (.inr ⟨n, HP.out, hnl⟩)))
          have t1 : decide ((n : Int) ≤ last) = true := decide_eq_true hnl
          clear hu HI3
          go_upto_region 6 with fail
          rw [← HU.out]
          go_upto_region 11 with fail
          clear k0 f0
          have HSV := Lib.hid HIF.out.sureV
          have HSL : Hid (sure.length ≤ 1000000) := Lib.hid (by have := HIF.out.slen; omega)
          have HLB : Hid (Bl < u.heap.size) := Lib.hid (Array.getElem?_eq_some_iff.1 HIF.out.las).1
          go_wp2_with fail
          (with_reducible refine (dsorted_any sa sc sure HSL.out _ HSV.out).mono ?_)
          rintro e y1 ⟨v1, rfl, q1, q2, q3⟩
          obtain ⟨S1, hS1⟩ : ∃ S1, S1 = Srt.sortK Rv.stamp sure := ⟨_, rfl⟩
          rw [← hS1] at q1 q2
          have HS1 := Lib.hid hS1
          have HSL1 : Hid (S1.length ≤ 1000000) := Lib.hid (by rw [hS1, sortK_len]; exact HSL.out)
          have HQ := Lib.hid (And.intro q1 (And.intro q2 q3))
          have HC1 : Hid (y1.cell? ⟨Bl, 0, none⟩ = some (.int .i64 last)) := Lib.hid ((q3.cell (p := ⟨Bl, 0, none⟩) HLB.out).trans (cell_of_blk HIF.out.las 0))
          have HV1 : Hid (v1.ownBlock ≠ some Bl) := Lib.hid (fun e => by have := q1.own_ge e; have := HLB.out; omega)
          clear q1 q2 q3 hS1
          go_wp2_with fail
          (with_reducible refine (delR_any v1 S1 Bl last _ u.heap.size HQ.out.1 HQ.out.2.1 HSL1.out (Nat.lt_of_lt_of_le HLB.out HQ.out.2.2.size) HV1.out HC1.out).mono ?_)
          rintro e y2 ⟨v2, rfl, q1, q2⟩
          obtain ⟨S2, hS2⟩ : ∃ S2, S2 = S1.filter (fun x => !delB last x) := ⟨_, rfl⟩
          rw [← hS2] at q1
          have HS2 := Lib.hid hS2
          have HSL2 : Hid (S2.length ≤ 1000000) := Lib.hid (by rw [hS2]; exact Nat.le_trans (List.length_filter_le _ _) HSL1.out)
          have HQ1 : Hid (Below u.heap.size u y2) := Lib.hid (HQ.out.2.2.trans (q2.below HQ.out.2.2.size (fun i e => HQ.out.1.own_ge e)))
          have HQ2 : Hid (RsN y2.drew u.heap.size v2 S2) := Lib.hid (q1.block (fun _ _ => rfl))
          have HC2 : Hid (y2.drew.cell? ⟨Bl, 0, none⟩ = some (.int .i64 last)) := Lib.hid (((HQ1.out.drew).cell (p := ⟨Bl, 0, none⟩) HLB.out).trans (cell_of_blk HIF.out.las 0))
          have HV2 : Hid (∀ g, v2.ownBlock = some g → u.heap.size ≤ g) := Lib.hid (fun g e => q1.own_ge e)
          clear q1 q2 hS2
          go_wp2_with fail
          go_region_held3 (fun w' => w'.cell? ⟨Bl, 0, none⟩ = some (.int .i64 last))
            (first | exact HC2.out | exact HC3.out)
            ((go_at_call 80; (with_reducible refine (comR_any v2 S2 _ u.heap.size HQ2.out HSL2.out).mono ?_); rintro e y3 ⟨v3, rfl, q1, q2⟩; have HQ3 := Lib.hid (And.intro q1 q2); have HQ4 : Hid (Below u.heap.size u y3) := Lib.hid (HQ1.out.drew.trans (q2.below HQ1.out.size (fun i e => HV2.out i e))); have HC3 : Hid (y3.cell? ⟨Bl, 0, none⟩ = some (.int .i64 last)) := Lib.hid ((HQ4.out.cell (p := ⟨Bl, 0, none⟩) HLB.out).trans (cell_of_blk HIF.out.las 0)); clear q1 q2))
          go_wp2_with fail
          go_ret3
          have hsub : ∀ x ∈ Srt.compL seq S2, x ∈ sure := fun x hx => by
            have h1 := Srt.compL_sub Rv.stamp S2 x hx
            rw [HS2.out] at h1
            have h2 := (List.mem_filter.1 h1).1
            rw [HS1.out] at h2
            exact sortK_mem h2
          refine ⟨v3, Srt.compL seq S2, ?_, HQ3.out.1.mono HIF.out.bel.size, fun x hx => (HIF.out.ok x (HIF.out.sub x (hsub x hx))).below HQ4.out, ?_, below_then HIF.out.bel HQ4.out⟩
          · rw [HST0.out]; rfl
          · rw [HST0.out, HS2.out, HS1.out]
            exact lgOut_rv sure ⟨all.map Rv.rc, sure.map Rv.rc, last, cut, pos⟩ rfl
        · have t1 : decide ((n : Int) ≤ last) = false := decide_eq_false hnl
          have hnl' : ¬ (n : Int) ≤ last := hnl
          have HNL := Lib.hid hnl'
          clear hu HI3 hnl hnl'
          go_upto_region 6 with fail
          rw [← HU.out]
          go_wp2_with fail
          have HI6 : Hid (RecI w (u.setCell ⟨Bl, 0, none⟩ (.int .i64 (n : Int))) l (.slice aa all.length ac) aa ac all all (n : Int) (pos + tn) (pos + tn) Bl R) := Lib.hid (by
            rw [← HTN.out, HM.out]
            exact HIF.out.mark n rfl (by rw [← HM.out]; exact HT0.out) (by rw [← HM.out]; exact HP.out) (by have := HNL.out; omega) (by rw [← HM.out, HTN.out]; exact hposz))
          exact ⟨⟨aa, ac, aa, ac, all, all, (n : Int), pos + tn, pos + tn, rfl, rfl, by go_num, by go_num, hposz, HI6⟩, by have := HTN.out; simp [intOf]; omega⟩
    · have HST0 : Hid (R = ⟨all.map Rv.rc, sure.map Rv.rc, last, cut, pos⟩) := Lib.hid (HI1.out.stop (by rw [← HM.out]; exact .inl t0))
      have hc0 : (tkE m != 0) = true := by simpa using t0
      obtain ⟨u, hu⟩ : ∃ u, u = w1.alloc (.cells #[.int .u8 0, .slice none 0 0] 43) := ⟨_, rfl⟩
      have HIF : Hid (RecI w u l (.slice aa all.length ac) sa sc all sure last cut pos Bl R) := Lib.hid (by rw [hu]; exact HI1.out.next (below_box w1 _))
      have HU := Lib.hid hu
      clear hu HI1
      go_upto_region 4 with fail
      rw [← HU.out]
      go_upto_region 11 with fail
      have HSV := Lib.hid HIF.out.sureV
      have HSL : Hid (sure.length ≤ 1000000) := Lib.hid (by have := HIF.out.slen; omega)
      have HLB : Hid (Bl < u.heap.size) := Lib.hid (Array.getElem?_eq_some_iff.1 HIF.out.las).1
      go_wp2_with fail
      (with_reducible refine (dsorted_any sa sc sure HSL.out _ HSV.out).mono ?_)
      rintro e y1 ⟨v1, rfl, q1, q2, q3⟩
      obtain ⟨S1, hS1⟩ : ∃ S1, S1 = Srt.sortK Rv.stamp sure := ⟨_, rfl⟩
      rw [← hS1] at q1 q2
      have HS1 := Lib.hid hS1
      have HSL1 : Hid (S1.length ≤ 1000000) := Lib.hid (by rw [hS1, sortK_len]; exact HSL.out)
      have HQ := Lib.hid (And.intro q1 (And.intro q2 q3))
      have HC1 : Hid (y1.cell? ⟨Bl, 0, none⟩ = some (.int .i64 last)) := Lib.hid ((q3.cell (p := ⟨Bl, 0, none⟩) HLB.out).trans (cell_of_blk HIF.out.las 0))
      have HV1 : Hid (v1.ownBlock ≠ some Bl) := Lib.hid (fun e => by have := q1.own_ge e; have := HLB.out; omega)
      clear q1 q2 q3 hS1
      go_wp2_with fail
      (with_reducible refine (delR_any v1 S1 Bl last _ u.heap.size HQ.out.1 HQ.out.2.1 HSL1.out (Nat.lt_of_lt_of_le HLB.out HQ.out.2.2.size) HV1.out HC1.out).mono ?_)
      rintro e y2 ⟨v2, rfl, q1, q2⟩
      obtain ⟨S2, hS2⟩ : ∃ S2, S2 = S1.filter (fun x => !delB last x) := ⟨_, rfl⟩
      rw [← hS2] at q1
      have HS2 := Lib.hid hS2
      have HSL2 : Hid (S2.length ≤ 1000000) := Lib.hid (by rw [hS2]; exact Nat.le_trans (List.length_filter_le _ _) HSL1.out)
      have HQ1 : Hid (Below u.heap.size u y2) := Lib.hid (HQ.out.2.2.trans (q2.below HQ.out.2.2.size (fun i e => HQ.out.1.own_ge e)))
      have HQ2 : Hid (RsN y2.drew u.heap.size v2 S2) := Lib.hid (q1.block (fun _ _ => rfl))
      have HC2 : Hid (y2.drew.cell? ⟨Bl, 0, none⟩ = some (.int .i64 last)) := Lib.hid (((HQ1.out.drew).cell (p := ⟨Bl, 0, none⟩) HLB.out).trans (cell_of_blk HIF.out.las 0))
      have HV2 : Hid (∀ g, v2.ownBlock = some g → u.heap.size ≤ g) := Lib.hid (fun g e => q1.own_ge e)
      clear q1 q2 hS2
      go_wp2_with fail
      go_region_held3 (fun w' => w'.cell? ⟨Bl, 0, none⟩ = some (.int .i64 last))
        (first | exact HC2.out | exact HC3.out)
        ((go_at_call 80; (with_reducible refine (comR_any v2 S2 _ u.heap.size HQ2.out HSL2.out).mono ?_); rintro e y3 ⟨v3, rfl, q1, q2⟩; have HQ3 := Lib.hid (And.intro q1 q2); have HQ4 : Hid (Below u.heap.size u y3) := Lib.hid (HQ1.out.drew.trans (q2.below HQ1.out.size (fun i e => HV2.out i e))); have HC3 : Hid (y3.cell? ⟨Bl, 0, none⟩ = some (.int .i64 last)) := Lib.hid ((HQ4.out.cell (p := ⟨Bl, 0, none⟩) HLB.out).trans (cell_of_blk HIF.out.las 0)); clear q1 q2))
      go_wp2_with fail
      go_ret3
      have hsub : ∀ x ∈ Srt.compL seq S2, x ∈ sure := fun x hx => by
        have h1 := Srt.compL_sub Rv.stamp S2 x hx
        rw [HS2.out] at h1
        have h2 := (List.mem_filter.1 h1).1
        rw [HS1.out] at h2
        exact sortK_mem h2
      refine ⟨v3, Srt.compL seq S2, ?_, HQ3.out.1.mono HIF.out.bel.size, fun x hx => (HIF.out.ok x (HIF.out.sub x (hsub x hx))).below HQ4.out, ?_, below_then HIF.out.bel HQ4.out⟩
      · rw [HST0.out]; rfl
      · rw [HST0.out, HS2.out, HS1.out]
        exact lgOut_rv sure ⟨all.map Rv.rc, sure.map Rv.rc, last, cut, pos⟩ rfl
end Go.Proofs.Ytcghgnncmnoalaa
