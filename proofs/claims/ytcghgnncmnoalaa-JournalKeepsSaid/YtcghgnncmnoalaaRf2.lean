/- cobwebref14.Recover: what holds between two rounds. Conditions: each lemma's own premises. -/
import Derived.Test.YtcghgnncmnoalaaRf1
namespace Go.Proofs.Ytcghgnncmnoalaa
open Go.RowKit Go.Maps

/-- what a mark leaves of the records ahead of it -/
def recvRv (l : List Rv) (last : Int) : List Rv := (l.filter (fun x => !delB last x)).foldl (Srt.putD Rv.stamp) []
theorem recvRv_eq (l : List Rv) (last : Int) : recvRv l last = Srt.compL seq ((Srt.sortK Rv.stamp l).filter (fun x => !delB last x)) := (Srt.recover_eq Rv.stamp l (fun x => !delB last x)).symm
theorem recvRv_len (l : List Rv) (last : Int) : (recvRv l last).length ≤ l.length := by
  rw [recvRv_eq]
  exact Nat.le_trans (compL_len _) (Nat.le_trans (List.length_filter_le _ _) (Nat.le_of_eq (sortK_len l)))
theorem recvRv_sub (l : List Rv) (last : Int) : ∀ x ∈ recvRv l last, x ∈ l := fun x hx => by
  rw [recvRv_eq] at hx
  exact sortK_mem (List.mem_filter.1 (Srt.compL_sub Rv.stamp _ x hx)).1
theorem recvRv_snoc (l : List Rv) (x : Rv) (last : Int) : recvRv (l ++ [x]) last = if delB last x = true then recvRv l last else Srt.putD Rv.stamp (recvRv l last) x := by
  unfold recvRv
  rw [List.filter_append, List.foldl_append]
  cases h : delB last x <;> simp [h]
/-- between two rounds -/
structure RecJ (w wr : World) (l : List UInt8) (vA : Value) (oa : Option Addr) (all sure out : List Rv) (last : Int) (cut pos : Nat) (R : Lg) : Prop where
  own : kR.Own wr w.heap.size vA all
  ok : ∀ x ∈ all, x.Ok wr
  apart : ∀ x ∈ all, x.ws ≠ [] → ∀ b off, x.a = some ⟨b, off, none⟩ → vA.ownBlock ≠ some b
  sat : out ≠ [] → ∃ b off, oa = some ⟨b, off, none⟩ ∧ kR.At wr b off out ∧ vA.ownBlock ≠ some b
  sub : ∀ x ∈ sure, x ∈ all
  eq : out = recvRv sure last
  bel : Below w.heap.size w wr
  len : all.length ≤ pos
  slen : sure.length ≤ pos
  ple : pos ≤ l.length
  cle : cut ≤ pos
  run : ∃ k, l.length < pos + k ∧ lgRun l k ⟨all.map Rv.rc, sure.map Rv.rc, last, cut, pos⟩ = R
theorem RecJ.next {w wr u : World} {l : List UInt8} {vA : Value} {oa : Option Addr} {all sure out : List Rv} {last : Int} {cut pos : Nat} {R : Lg} (h : RecJ w wr l vA oa all sure out last cut pos R) (hb : Below wr.heap.size wr u) : RecJ w u l vA oa all sure out last cut pos R :=
  ⟨h.own.below hb, fun x hx => (h.ok x hx).below hb, h.apart, fun hn => by
    obtain ⟨b, off, e1, e2, e3⟩ := h.sat hn
    exact ⟨b, off, e1, e2.below hb, e3⟩, h.sub, h.eq, below_then h.bel hb, h.len, h.slen, h.ple, h.cle, h.run⟩
theorem RecJ.start (w : World) (l : List UInt8) : RecJ w w l (.slice none 0 0) none [] [] [] (-1) 0 0 (lgN l) :=
  ⟨RowK.Own.nil kR _ _, fun x hx => by simp at hx, fun x hx => by simp at hx, fun hn => absurd rfl hn, fun x hx => by simp at hx, rfl, Below.refl _ _, Nat.le_refl _, Nat.le_refl _, Nat.zero_le _, Nat.le_refl _, l.length + 1, by omega, rfl⟩
theorem RecJ.more {w u w' : World} {l : List UInt8} {vA v' : Value} {oa : Option Addr} {all sure out : List Rv} {last : Int} {cut pos : Nat} {R : Lg} (h : RecJ w u l vA oa all sure out last cut pos R) (x : Rv) (hx : x.Ok u)
    (hxa : x.ws ≠ [] → ∀ b off, x.a = some ⟨b, off, none⟩ → vA.ownBlock ≠ some b) (happ : kR.App2 u w.heap.size vA (all ++ [x]) v' w') (ht : tkE (l.drop pos) = 0) (hp : psB ((l.drop pos).getD 1 0) (tkB (l.drop pos)) = .rc x.rc) (hpos : pos + (tkN (l.drop pos) + 10) ≤ l.length) :
    RecJ w w' l v' oa (all ++ [x]) sure out last cut (pos + (tkN (l.drop pos) + 10)) R := by
  obtain ⟨hown, hcase⟩ := happ
  have hblk : ∀ b, b < u.heap.size → vA.ownBlock ≠ some b → w'.heap[b]? = u.heap[b]? := fun b hb hn => by
    rcases hcase with ⟨_, hg⟩ | ⟨_, hg⟩
    · exact hg.block b hb (fun e => hn e.symm)
    · exact hg.block b hb (fun e => by cases e)
  have hbel : Below w.heap.size u w' := by
    rcases hcase with ⟨_, hg⟩ | ⟨_, hg⟩
    · exact ⟨hg.os, hg.tape, hg.output, hg.size, fun k hk => hg.block k (Nat.lt_of_lt_of_le hk h.bel.size) (fun e => by have := (h.own.lt _ e.symm).1; omega)⟩
    · exact ⟨hg.os, hg.tape, hg.output, hg.size, fun k hk => hg.block k (Nat.lt_of_lt_of_le hk h.bel.size) (fun e => by cases e)⟩
  have hne : ∀ b, b < u.heap.size → vA.ownBlock ≠ some b → v'.ownBlock ≠ some b := fun b hb hn => by
    rcases hcase with ⟨e2, _⟩ | ⟨e2, _⟩
    · rw [e2]; exact hn
    · rw [e2]; intro e3; injection e3 with e3; omega
  refine ⟨hown, fun y hy => ?_, fun y hy hn b off e => ?_, fun hn => ?_, fun y hy => List.mem_append.2 (.inl (h.sub y hy)), h.eq, h.bel.trans hbel, by rw [List.length_append]; have := h.len; simp; omega, by have := h.slen; omega, hpos, by have := h.cle; omega, ?_⟩
  · rcases List.mem_append.1 hy with hy | hy
    · exact ok_block (h.ok y hy) fun b off hn e hb => hblk b hb (h.apart y hy hn b off e)
    · simp at hy; subst hy
      exact ok_block hx fun b off hn e hb => hblk b hb (hxa hn b off e)
  · have hv : vA.ownBlock ≠ some b ∧ b < u.heap.size := by
      rcases List.mem_append.1 hy with hy | hy
      · obtain ⟨b', off', e', hat⟩ := (h.ok y hy).ws hn
        rw [e] at e'; injection e' with e'; injection e' with e1 e2; subst e1
        exact ⟨h.apart y hy hn b off e, hat.lt⟩
      · simp at hy; subst hy
        obtain ⟨b', off', e', hat⟩ := hx.ws hn
        rw [e] at e'; injection e' with e'; injection e' with e1 e2; subst e1
        exact ⟨hxa hn b off e, hat.lt⟩
    exact hne b hv.2 hv.1
  · obtain ⟨b, off, e1, e2, e3⟩ := h.sat hn
    exact ⟨b, off, e1, e2.of_block (hblk b e2.lt e3), hne b e2.lt e3⟩
  · obtain ⟨k, hk, hr⟩ := h.run
    have hpl := h.ple
    refine ⟨k - 1, by omega, ?_⟩
    refine Eq.trans (lgRun_step (s' := ⟨(all ++ [x]).map Rv.rc, sure.map Rv.rc, last, cut, pos + (tkN (l.drop pos) + 10)⟩) ?_ (by omega)).symm hr
    unfold lgStep
    rw [if_neg (by simp [ht]), hp]
    simp [lgB]
/-- a mark, its records put -/
theorem RecJ.mark {w u w' : World} {l : List UInt8} {vA : Value} {oa oa' : Option Addr} {all sure out : List Rv} {last : Int} {cut pos : Nat} {R : Lg} (n : Nat) (h : RecJ w u l vA oa all sure out last cut pos R) (hb : Below u.heap.size u w')
    (hsat : recvRv all (n : Int) ≠ [] → ∃ b off, oa' = some ⟨b, off, none⟩ ∧ kR.At w' b off (recvRv all (n : Int)) ∧ vA.ownBlock ≠ some b) (ht : tkE (l.drop pos) = 0) (hp : psB ((l.drop pos).getD 1 0) (tkB (l.drop pos)) = .mark n) (hn : ¬ (n : Int) ≤ last) (hpos : pos + (tkN (l.drop pos) + 10) ≤ l.length) :
    RecJ w w' l vA oa' all all (recvRv all (n : Int)) (n : Int) (pos + (tkN (l.drop pos) + 10)) (pos + (tkN (l.drop pos) + 10)) R := by
  have h' := h.next hb
  refine ⟨h'.own, h'.ok, h'.apart, hsat, fun _ h => h, rfl, h'.bel, by have := h.len; omega, by have := h.len; omega, hpos, Nat.le_refl _, ?_⟩
  obtain ⟨k, hk, hr⟩ := h.run
  have hpl := h.ple
  refine ⟨k - 1, by omega, ?_⟩
  refine Eq.trans (lgRun_step (s' := ⟨all.map Rv.rc, all.map Rv.rc, (n : Int), pos + (tkN (l.drop pos) + 10), pos + (tkN (l.drop pos) + 10)⟩) ?_ (by omega)).symm hr
  unfold lgStep
  rw [if_neg (by simp [ht]), hp]
  simp [lgB, hn]
theorem RecJ.stop {w u : World} {l : List UInt8} {vA : Value} {oa : Option Addr} {all sure out : List Rv} {last : Int} {cut pos : Nat} {R : Lg} (h : RecJ w u l vA oa all sure out last cut pos R)
    (hs : tkE (l.drop pos) ≠ 0 ∨ (∃ c, psB ((l.drop pos).getD 1 0) (tkB (l.drop pos)) = .err c) ∨ ∃ n : Nat, psB ((l.drop pos).getD 1 0) (tkB (l.drop pos)) = .mark n ∧ (n : Int) ≤ last) : R = ⟨all.map Rv.rc, sure.map Rv.rc, last, cut, pos⟩ := by
  obtain ⟨k, hk, hr⟩ := h.run
  rw [← hr]
  refine lgRun_stop ?_
  unfold lgStep
  rcases hs with h1 | ⟨c, h1⟩ | ⟨n, h1, h2⟩
  · rw [if_pos h1]
  · split
    · rfl
    · rw [h1]; rfl
  · split
    · rfl
    · rw [h1]; simp [lgB, h2]
theorem RsV.of_at {w : World} {a : Option Addr} {l : List Rv} (h : l ≠ [] → ∃ b off, a = some ⟨b, off, none⟩ ∧ kR.At w b off l) (hok : ∀ x ∈ l, x.Ok w) : RsV w a l := fun hn => by
  obtain ⟨b, off, e, hat⟩ := h hn
  exact ⟨b, off, e, ⟨fun i x hx => ⟨hok x (List.mem_of_getElem? hx), hat.cells i x hx 0 _ rfl, hat.cells i x hx 1 _ rfl⟩, hat.lt⟩⟩
theorem RecJ.outV {w u : World} {l : List UInt8} {vA : Value} {oa : Option Addr} {all sure out : List Rv} {last : Int} {cut pos : Nat} {R : Lg} (h : RecJ w u l vA oa all sure out last cut pos R) : RsV u oa out :=
  RsV.of_at (fun hn => by
    obtain ⟨b, off, e, hat, _⟩ := h.sat hn
    exact ⟨b, off, e, hat⟩) (fun x hx => h.ok x (h.sub x (recvRv_sub sure last x (by rw [← h.eq]; exact hx))))
theorem RecJ.allV {w u : World} {l : List UInt8} {a : Option Addr} {n c : Nat} {oa : Option Addr} {all sure out : List Rv} {last : Int} {cut pos : Nat} {R : Lg} (h : RecJ w u l (.slice a n c) oa all sure out last cut pos R) : RsV u a all := RsV.of_own h.own h.ok
end Go.Proofs.Ytcghgnncmnoalaa
