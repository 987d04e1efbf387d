/- The reference's Free. Conditions: the contract's own premises. -/
import Derived.Test.YtaanohgkdpohhaaRc3
namespace Go.Proofs.Ytaanohgkdpohhaa
open Go.RowKit Go.Maps

def freeL (L : List (Ky × Cl)) (k : Ky) : Int × List (Ky × Cl) :=
  match lookL L k with
  | none => (0, L)
  | some x => if x.ab = false ∨ x.lk = true then (0, L) else (1, delL k L)
def RFr (w : World) (rb D room : Nat) (v : Value) (L : List (Ky × Cl)) (k : Ky) (e : Ending) (w' : World) : Prop :=
  e = .returned (.int .i64 (freeL L k).1) ∧ RPost w rb D room v (freeL L k).2 w'
set_option maxRecDepth 100000 in
set_option maxHeartbeats 4000000 in
theorem rfree_any (rb D room : Nat) (v : Value) (L : List (Ky × Cl)) (k : Ky) (w : World) (h : RO w rb D room v L) (hD : D ≤ w.heap.size) :
    Calls Try.prog 96 #[.pointer (some ⟨rb, 0, none⟩), .agg #[.int .i64 k.kind, .int .i64 k.a, .int .i64 k.b, .string k.s]] w (RFr w rb D room v L k) := by
  obtain ⟨kb, hkb⟩ : ∃ kb, kb = w.heap.size := ⟨_, rfl⟩
  obtain ⟨W, hW⟩ : ∃ W, W = w.alloc (.cells #[.int .i64 k.kind, .int .i64 k.a, .int .i64 k.b, .string k.s] 32) := ⟨_, rfl⟩
  have HBW : Hid (Below w.heap.size w W) := Lib.hid (by rw [hW]; exact below_box _ _)
  have hk0 : W.heap[kb]? = some (.cells #[.int .i64 k.kind, .int .i64 k.a, .int .i64 k.b, .string k.s] 32 (0, 0)) := by rw [hW, hkb]; exact heap_new _ _
  have p0 := cell_of_blk hk0 0
  have p1 := cell_of_blk hk0 1
  have p2 := cell_of_blk hk0 2
  have p3 := cell_of_blk hk0 3
  have zk := (Array.getElem?_eq_some_iff.1 hk0).1
  simp at p0 p1 p2 p3
  obtain ⟨a, cap, rfl⟩ := h.o.shape
  obtain ⟨m, hm⟩ : ∃ m, m = L.length := ⟨_, rfl⟩
  rw [← hm] at h ⊢
  have HM : Hid (m = L.length ∧ m ≤ 1048576) := Lib.hid ⟨hm, by have := h.len; omega⟩
  have HRW := Lib.hid (h.below HBW.out)
  have HR0 := Lib.hid h
  have HDD := Lib.hid hD
  have HW := Lib.hid hW.symm
  have HKB := Lib.hid hkb.symm
  clear h hD hW hkb hk0 hm
  go_enter Try.func96, Try.ntmps96
  go_upto_region 1 with fail
  rw [HW.out, HKB.out]
  cases hl : lookL L k with
  | none =>
    have HLN := Lib.hid hl
    have HF := Lib.hid (r9find_none rb cap room a L k W HRW.out.rv.1 hl)
    clear hl
    go_wp2_with fail
    refine HF.out.mono ?_
    rintro e w1 ⟨rfl, b1⟩
    have HB1 : Hid (Below w.heap.size w w1) := Lib.hid (HBW.out.trans (b1.mono HBW.out.size))
    have t1 : decide ((-1 : Int) < 0) = true := rfl
    clear b1 p0 p1 p2 p3 zk
    go_wp2_with fail
    go_ret
    unfold RFr freeL
    rw [HLN.out]
    exact ⟨rfl, RPost.same HR0.out HB1.out⟩
  | some x =>
    have HLS := Lib.hid hl
    have HF := Lib.hid (r9find_at rb cap room a L k x W HRW.out.rv.1 hl)
    clear hl
    go_wp2_with fail
    refine HF.out.mono ?_
    rintro e w1 ⟨i, rfl, hi, hf, b1⟩
    have HRO := Lib.hid (HRW.out.below b1)
    have HB1 : Hid (Below w.heap.size w w1) := Lib.hid (HBW.out.trans (b1.mono HBW.out.size))
    have HI := Lib.hid hi
    have HFS := Lib.hid hf
    obtain ⟨g, cp, hve, _, _, _⟩ := HRO.out.o.at' (fun e => by rw [e] at hi; simp at hi)
    injection hve with hv1 hv2 hv3
    subst hv1
    have t8 : decide ((i : Int) < 0) = false := decide_eq_false (by omega)
    have hat := HRO.out.at_ HI.out
    have q1 := cell_of_blk HRO.out.blk 1
    have zr := HRO.out.lt
    have c5 := hat.cells i (k, x) HI.out 5 _ rfl
    have c7 := hat.cells i (k, x) HI.out 7 _ rfl
    simp [kC] at q1 c5 c7
    have zg := hat.lt
    have hin : i < m := by have h1 := (List.getElem?_eq_some_iff.1 HI.out).1; have h2 := HM.out; omega
    have hin2 : (i : Int) < (m : Int) := by omega
    have hm6 := HM.out.2
    clear hi hf b1 p0 p1 p2 p3 zk hat hv2 hv3
    cases hab : x.ab
    case false =>
      have HAB := Lib.hid hab
      rw [hab] at c5
      clear hab
      simp only [Bool.not_false] at c5
      go_wp2_with fail
      go_ret
      unfold RFr freeL
      rw [HLS.out]
      simp only
      rw [if_pos (.inl HAB.out)]
      exact ⟨rfl, RPost.same HR0.out HB1.out⟩
    case true =>
    have HAB := Lib.hid hab
    rw [hab] at c5
    clear hab
    simp only [Bool.not_true] at c5
    cases hlk : x.lk
    case true =>
      have HLK := Lib.hid hlk
      rw [hlk] at c7
      clear hlk
      go_wp2_with fail
      go_ret
      unfold RFr freeL
      rw [HLS.out]
      simp only
      rw [if_pos (.inr HLK.out)]
      exact ⟨rfl, RPost.same HR0.out HB1.out⟩
    case false =>
    have HLK := Lib.hid hlk
    rw [hlk] at c7
    clear hlk
    have HDR := Lib.hid (rdrop_any rb D room _ L i w1 HRO.out (Nat.le_trans HDD.out HB1.out.size) (by have := HM.out; omega))
    go_wp2_with fail
    refine HDR.out.mono ?_
    rintro e w2 ⟨rfl, ⟨v', hro, hob⟩, hch⟩
    have HRO2 := Lib.hid hro
    have HOB2 := Lib.hid hob
    have HCH := Lib.hid hch
    clear hro hob hch q1 zr c5 c7 zg
    go_wp2_with fail
    go_ret
    unfold RFr freeL
    rw [HLS.out]
    simp only
    rw [if_neg (by rw [HAB.out, HLK.out]; decide)]
    refine ⟨rfl, ⟨v', ?_, fun j hj => (HOB2.out j hj).imp id (fun q => Nat.le_trans HB1.out.size q)⟩, (Chg.of_below HB1.out (RF rb (.slice (some ⟨g, 0, none⟩) m cap))).trans HCH.out (fun _ _ hs => hs)⟩
    rw [← cut_del HI.out HFS.out]
    exact HRO2.out
end Go.Proofs.Ytaanohgkdpohhaa
