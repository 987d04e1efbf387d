/- The journal: Mark. Conditions: each contract's own premises. -/
import Derived.Test.YtcghgnncmnoalaaJn5
import Derived.StillTailTactics
namespace Go.Proofs.Ytcghgnncmnoalaa
open Go.RowKit Go.Maps

/-- what a mark answers -/
def mkE (room len : Nat) (prom last n : Int) : Int := if epB n = false then 2 else if n ≤ last then 51 else if (room : Int) - len - prom < 28 then 50 else 0
def JMarkPost (w : World) (jb db room safe : Nat) (prom last : Int) (B : Nat) (l : List UInt8) (ms : List (Int × Int)) (n : Int) (e : Ending) (w' : World) : Prop :=
  e = .returned (.int .i64 (mkE room l.length prom last n)) ∧ (mkE room l.length prom last n ≠ 0 → JS w' jb db room safe prom last B l ms) ∧
  (mkE room l.length prom last n = 0 → JS w' jb db room safe prom n B (l ++ packL 2 (fourL n.toNat)) (ms ++ [(n, ((l.length + 14 : Nat) : Int))])) ∧ Chg w w' (fun j => j = jb ∨ j = db ∨ dob w db = some j ∨ job w jb = some j)
/-- the mark is laid -/
theorem JS.marked {w w1 w2 : World} {jb db room safe B : Nat} {prom last : Int} {l : List UInt8} {ms : List (Int × Int)} (h : JS w jb db room safe prom last B l ms) {a : Option Addr} {cap : Nat} {v' : Value} {m : Int × Int}
    (e : w.heap[jb]? = some (.cells #[.pointer (some ⟨db, 0, none⟩), .int .i64 prom, .int .i64 last, .slice a ms.length cap] 174)) (hb : Below w.heap.size w w1) (hA : kS.App w1 B (.slice a ms.length cap) (ms ++ [m]) v' w2) :
    JS (w2.setCell ⟨jb, 3, none⟩ v') jb db room safe prom last B l (ms ++ [m]) ∧ w2.cell? ⟨jb, 3, none⟩ = some (.slice a ms.length cap) ∧ w2.frozen? ⟨jb, 3, none⟩ = false ∧ Chg w (w2.setCell ⟨jb, 3, none⟩ v') (fun j => j = jb ∨ job w jb = some j) ∧ ∃ a2 c2, v' = .slice a2 (ms ++ [m]).length c2 := by
  obtain ⟨o2, g2, l2⟩ := hA
  obtain ⟨a2, c2, hv⟩ := o2.shape
  have hjo : job w jb = (Value.slice a ms.length cap).ownBlock := job_eq e
  have hjn : (Value.slice a ms.length cap).ownBlock ≠ some jb := fun hh => (h.j.ob (hjo.trans hh)).2.2.1 rfl
  have h1 := h.below hb
  have e1 := (hb.block _ h.j.lt).trans e
  have e2 := (g2.block _ h1.j.lt (fun hh => hjn hh.symm)).trans e1
  have c1 : Chg w w2 (fun j => j = jb ∨ job w jb = some j) := (Chg.of_below hb _).grown g2 (fun m hm _ => .inr (by rw [hjo]; exact hm))
  have c2' : Chg w (w2.setCell ⟨jb, 3, none⟩ v') (fun j => j = jb ∨ job w jb = some j) := c1.setCell (p := ⟨jb, 3, none⟩) (fun _ => .inl rfl) _
  have hvn : v'.ownBlock ≠ some jb := by
    rcases l2 with r | r
    · rw [r]; exact hjn
    · rw [r]; intro hh; injection hh with hh; have := h1.j.lt; omega
  refine ⟨JS.mk' (h.d.chg c2' (fun hh => hh.elim (fun q => (h.j.ne h.d) q.symm) (fun q => (h.j.ob q).2.2.2 rfl)) (fun j hj hh => hh.elim (fun q => h.n1 (by rw [hj, q])) (fun q => h.n2 j q hj))) ⟨a2, c2, by rw [blk_setCell e2, ← hv]; rfl, ?_, by rw [← hv]; exact hvn, fun j hj => ?_⟩, ?_, frozen_of_blk e2 3, c2', a2, c2, hv⟩
  · rw [← hv]
    exact o2.chg (((Chg.refl w2 (fun j => j = jb)).setCell (p := ⟨jb, 3, none⟩) (fun _ => rfl) v')) (fun j hj hh => hvn (by rw [hj, hh]))
  · rw [← hv] at hj
    rcases l2 with r | r
    · rw [r, ← hjo] at hj; exact (h.j.ob hj).2.2.2
    · rw [r] at hj; injection hj with hj; have := h1.d.lt; omega
  · have := cell_of_blk e2 3
    simpa using this
end Go.Proofs.Ytcghgnncmnoalaa
