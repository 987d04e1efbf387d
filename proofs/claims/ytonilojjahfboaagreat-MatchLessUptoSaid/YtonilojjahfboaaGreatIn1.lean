/- slices.IndexFunc, slices.DeleteFunc of ints, whatever the closure. Conditions: each contract's own premises. -/
import Derived.Test.YtonilojjahfboaaGreatGrA
import Derived.Test.YtonilojjahfboaaGreatRnA
import Derived.Shelf.Abstract
import Derived.Deep.Cut
namespace Go.Proofs.YtonilojjahfboaaGreat
open Go.RowKit Go.Maps

theorem kI_cell {w : World} {b off : Nat} {l : List Int} (h : kI.At w b off l) {i : Nat} {p : Int} (hp : l[i]? = some p) : w.cell? ⟨b, off + i, none⟩ = some (.int .i64 p) := by
  have := h.cells i p hp 0 _ rfl
  simpa [kI] using this
set_option maxRecDepth 100000 in
set_option maxHeartbeats 2000000 in
theorem idxI_by (g : Nat) (cb : Array Value) (p : Int → Bool) (a : Option Addr) (cap : Nat) (l : List Int) (w : World) (eg : ∀ args w, (callFunc g args).run Tryz.prog w = .ok (.enter g args) w) (hv : kI.V w a l) (hl : l.length ≤ 1000000)
    (hp : ∀ (W : World) (x : Int), x ∈ l → Below w.heap.size w W → Calls Tryz.prog g (#[.int .i64 x] ++ cb) W fun e w' => e = .returned (.bool (p x)) ∧ Below W.heap.size W w') :
    Calls Tryz.prog 233 #[.slice a l.length cap, .func (.func g) #[] cb] w fun e w' => e = .returned (.int .i64 (idxG p l 0)) ∧ Below w.heap.size w w' := by
  have HR := Lib.hid hv
  have HP := Lib.hid hp
  clear hv hp
  go_enter Tryz.func233, Tryz.ntmps233
  go_wp2_with fail
  go_loopw [8] (fun i wr => ∃ k : Nat, k ≤ l.length ∧ i = .int .i64 k ∧ Hid (idxG p l 0 = idxG p (l.drop k) k) ∧ Below w.heap.size w wr) (fun i _ => l.length - (intOf i).toNat)
  case atStart => exact ⟨0, by omega, rfl, Lib.hid rfl, Below.refl _ _⟩
  case round =>
    obtain ⟨k, hk, rfl, HI, hbr⟩ := hrel
    by_cases hlt : k < l.length
    · obtain ⟨x, hx⟩ : ∃ x, l[k]? = some x := ⟨_, List.getElem?_eq_getElem hlt⟩
      obtain ⟨b, off, rfl, hat⟩ := HR.out (fun e => by rw [e] at hlt; simp at hlt)
      have c0 := kI_cell (hat.below hbr) hx
      have hc := HP.out wr x (List.mem_of_getElem? hx) hbr
      have hD := Lib.hid (idxG_drop (p := p) hx)
      obtain ⟨q, hq⟩ : ∃ q, p x = q := ⟨_, rfl⟩
      have HQ := Lib.hid hq
      rw [hq] at hc
      have HC := Lib.hid hc
      clear hx hat hq hc
      cases q
      · have HN : Hid (idxG p l 0 = idxG p (l.drop (k + 1)) ((k + 1 : Nat) : Int)) := Lib.hid (by rw [HI.out, hD.out, HQ.out, if_neg (by decide)]; rfl)
        go_wp2_with (go_at_fn g; refine HC.out.mono ?_; rintro e w1 ⟨rfl, b1⟩; have HB1 := Lib.hid (below_then hbr b1); clear b1)
        exact ⟨⟨k + 1, by omega, by go_num, HN, HB1.out⟩, by simp [intOf]; omega⟩
      · have HN : Hid (idxG p l 0 = k) := Lib.hid (by rw [HI.out, hD.out, HQ.out, if_pos rfl])
        go_wp2_with (go_at_fn g; refine HC.out.mono ?_; rintro e w1 ⟨rfl, b1⟩; have HB1 := Lib.hid (below_then hbr b1); clear b1)
        go_ret
        exact ⟨by rw [HN.out]; rfl, HB1.out⟩
    · obtain rfl : k = l.length := by omega
      have HN : Hid (idxG p l 0 = -1) := Lib.hid (by rw [HI.out, List.drop_length]; rfl)
      go_wp2_with fail
      go_ret
      exact ⟨by rw [HN.out]; rfl, hbr⟩
/-- what leaves some out, leaves -/
def DlPost (w : World) (B b cap : Nat) (l : List Int) (p : Int → Bool) (e : Ending) (w' : World) : Prop :=
  e = .returned (.slice (some ⟨b, 0, none⟩) (l.filter (fun x => !p x)).length cap) ∧ kI.Own w' B (.slice (some ⟨b, 0, none⟩) (l.filter (fun x => !p x)).length cap) (l.filter (fun x => !p x)) ∧ Chg w w' (fun j => j = b)
theorem ownI_cell {w : World} {B b n cap : Nat} {l : List Int} (h : kI.Own w B (.slice (some ⟨b, 0, none⟩) n cap) l) {i : Nat} {p : Int} (hp : l[i]? = some p) : w.cell? ⟨b, i, none⟩ = some (.int .i64 p) := by
  obtain ⟨b', c', e, _, _, hat⟩ := h.at' (fun e => by rw [e] at hp; simp at hp)
  injection e with e1
  injection e1 with e1
  injection e1 with e1
  subst e1
  have := kI_cell hat hp
  simpa using this
theorem ownI_frozen {w : World} {B b n cap : Nat} {l : List Int} (h : kI.Own w B (.slice (some ⟨b, 0, none⟩) n cap) l) (i : Nat) : w.frozen? ⟨b, i, none⟩ = false := by
  obtain ⟨cur, hg, _⟩ := h.blk
  exact frozen_of_blk hg i
theorem ownI_set {w : World} {B b n cap : Nat} {l : List Int} (h : kI.Own w B (.slice (some ⟨b, 0, none⟩) n cap) l) {i : Nat} (hi : i < l.length) (x : Int) :
    kI.Own (w.setCell ⟨b, i, none⟩ (.int .i64 x)) B (.slice (some ⟨b, 0, none⟩) n cap) (l.set i x) := by
  have := h.upd (i := i) (r := 0) (x := l[i]) (x' := x) (List.getElem?_eq_getElem hi) [.int .i64 x] (by show 0 + 1 ≤ 1; omega) (fun j => by
    by_cases hj : j < 1
    · rw [if_pos ⟨Nat.zero_le _, by show j < 0 + 1; omega⟩]; rfl
    · rw [if_neg (fun h => hj (by have := h.2; simpa using this)), List.getElem?_eq_none (by show 1 ≤ j; omega), List.getElem?_eq_none (by show 1 ≤ j; omega)])
  have e : i * kI.size + 0 = i := by simp [kI]
  rw [e] at this
  exact this
set_option maxRecDepth 100000 in
set_option maxHeartbeats 4000000 in
theorem delI_by (g : Nat) (cb : Array Value) (p : Int → Bool) (b cap : Nat) (l : List Int) (w : World) (B : Nat) (eg : ∀ args w, (callFunc g args).run Tryz.prog w = .ok (.enter g args) w) (h : kI.Own w B (.slice (some ⟨b, 0, none⟩) l.length cap) l) (hl : l.length ≤ 1000000)
    (hp : ∀ (W : World) (x : Int), x ∈ l → Chg w W (fun j => j = b) → Calls Tryz.prog g (#[.int .i64 x] ++ cb) W fun e w' => e = .returned (.bool (p x)) ∧ Below W.heap.size W w') :
    Calls Tryz.prog 136 #[.slice (some ⟨b, 0, none⟩) l.length cap, .func (.func g) #[] cb] w (DlPost w B b cap l p) := by
  have HS0 := Lib.hid h
  have HP := Lib.hid hp
  have hidx := idxI_by g cb p (some ⟨b, 0, none⟩) cap l w eg h.toV hl (fun W x hx hb => hp W x hx (Chg.of_below hb _))
  have HIX := Lib.hid hidx
  clear h hp hidx
  go_enter Tryz.func136, Tryz.ntmps136
  go_wp2_with fail
  refine HIX.out.mono ?_
  rintro e w1 ⟨rfl, hb1⟩
  have HB1 := Lib.hid hb1
  clear hb1 HIX
  rcases idxG_cases p l 0 with ⟨h1, h2⟩ | ⟨k, x, h1, h2, h3, h4⟩
  · have HE : Hid (l.filter (fun x => !p x) = l) := Lib.hid (List.filter_eq_self.2 (fun x hx => by rw [h2 x hx]; rfl))
    clear h2
    have h1' : idxG p l 0 = -1 := h1
    rw [h1']
    clear h1 h1'
    go_wp2_with fail
    go_ret
    unfold DlPost
    rw [HE.out]
    exact ⟨rfl, HS0.out.below HB1.out, Chg.of_below HB1.out _⟩
  · have h1' : idxG p l 0 = ((0 + k : Nat) : Int) := h1
    rw [Nat.zero_add] at h1'
    rw [h1']
    have HM0 := Lib.hid (DelM.start h2 h3 h4)
    have hkl := (List.getElem?_eq_some_iff.1 h2).1
    clear h1 h1' h2 h3 h4
    have HO1 : Hid (kI.Own w1 B (.slice (some ⟨b, 0, none⟩) l.length cap) l ∧ Chg w w1 (fun j => j = b)) := Lib.hid ⟨HS0.out.below HB1.out, Chg.of_below HB1.out _⟩
    have n1 : ((k : Int) == -1) = false := by simp
    go_wp2_with fail
    go_loopw [5, 6, 7] (fun a c _ wr => ∃ i j : Nat, ∃ M : List Int, a = .int .i64 i ∧ c = .int .i64 j ∧ j ≤ l.length ∧ Hid (DelM p l M i j ∧ kI.Own wr B (.slice (some ⟨b, 0, none⟩) l.length cap) M ∧ Chg w wr (fun j => j = b))) (fun _ c _ _ => l.length - (intOf c).toNat)
    case atStart => exact ⟨k, k + 1, l, rfl, by go_num, by omega, Lib.hid ⟨HM0.out, HO1.out.1, HO1.out.2⟩⟩
    case round =>
      clear HM0 HO1
      obtain ⟨i, j, M, rfl, rfl, hj, HR⟩ := hrel
      by_cases hlt : j < l.length
      · obtain ⟨x, hx⟩ : ∃ x, l[j]? = some x := ⟨_, List.getElem?_eq_getElem hlt⟩
        have hMx := HR.out.1.get.trans hx
        have c0 := ownI_cell HR.out.2.1 hMx
        have HX := Lib.hid hx
        obtain ⟨q, hq⟩ : ∃ q, p x = q := ⟨_, rfl⟩
        have hC := HP.out wr x (List.mem_of_getElem? hx) HR.out.2.2
        rw [hq] at hC
        have HC := Lib.hid hC
        have HQ := Lib.hid hq
        clear hx hMx hq hC
        go_upto_region 8 with fail
        go_wp2_with fail
        refine HC.out.mono ?_
        rintro e w2 ⟨rfl, hb2⟩
        have HS2 : Hid (kI.Own w2 B (.slice (some ⟨b, 0, none⟩) l.length cap) M ∧ Chg w w2 (fun j => j = b)) := Lib.hid ⟨HR.out.2.1.below hb2, HR.out.2.2.trans (Chg.of_below hb2 _) (fun _ _ h => h)⟩
        clear hb2 c0
        cases q
        · have hil : i < l.length := by have := HR.out.1.lt; omega
          obtain ⟨y, hy⟩ : ∃ y, M[i]? = some y := ⟨_, List.getElem?_eq_getElem (by rw [HR.out.1.len]; exact hil)⟩
          have c0 := ownI_cell HS2.out.1 hy
          have f0 := ownI_frozen HS2.out.1 i
          have hinz : (i : Int) < (l.length : Int) := by omega
          clear hy
          go_wp2_with fail
          refine ⟨⟨i + 1, j + 1, M.set i x, by go_num, by go_num, by omega, Lib.hid ⟨HR.out.1.keep HX.out HQ.out, ownI_set HS2.out.1 (by rw [HR.out.1.len]; exact hil) x, ?_⟩⟩, by simp [intOf]; omega⟩
          exact HS2.out.2.setCell (p := ⟨b, i, none⟩) (fun _ => rfl) _
        · go_wp2_with fail
          exact ⟨⟨i, j + 1, M, rfl, by go_num, by omega, Lib.hid ⟨HR.out.1.skip HX.out HQ.out, HS2.out.1, HS2.out.2⟩⟩, by simp [intOf]; omega⟩
      · obtain rfl : j = l.length := by omega
        have hil : i < l.length := HR.out.1.lt
        have hE := HR.out.1.fin rfl
        have hM := HR.out.1.len
        have hO := HR.out.2.1
        obtain ⟨w9, hcl, q1, q2⟩ := hO.run_clear (i := i) (by decide) (by omega) (cap - i) (l.length - i) (by omega)
        have hcap := hO.cap
        have HF : Hid (DlPost w B b cap l p (.returned (.slice (some ⟨b, 0, none⟩) i cap)) w9) := Lib.hid (by
          unfold DlPost
          rw [← hE]
          have e : (M.take i).length = i := by rw [List.length_take]; omega
          rw [e]
          exact ⟨rfl, q1, HR.out.2.2.trans q2 (fun _ _ h => h)⟩)
        have hci : ¬ cap = i := by omega
        have hci' : ¬ i = cap := by omega
        have hiz : (i : Int) ≤ (l.length : Int) := by omega
        have hizc : (i : Int) ≤ (cap : Int) := by omega
        have hcl' : ∀ ty, (Builtin.clear_ #[42] ty #[.slice (some ⟨b, i, none⟩) (l.length - i) (cap - i)]).run Tryz.prog wr = .ok (.tuple #[]) w9 := fun ty => by
          have := hcl ty
          rw [show i * kI.size = i by simp [kI]] at this
          exact this
        clear hE hM hO q1 q2 hcap hcl
        go_wp2_with fail
        go_ret
        exact HF.out
theorem delI_nil (g : Nat) (cb : Array Value) (w : World) (eg : ∀ args w, (callFunc g args).run Tryz.prog w = .ok (.enter g args) w) :
    Calls Tryz.prog 136 #[.slice none 0 0, .func (.func g) #[] cb] w fun e w' => e = .returned (.slice none 0 0) ∧ Below w.heap.size w w' := by
  have HI := Lib.hid (idxI_by g cb (fun _ => false) none 0 [] w eg (fun hn => absurd rfl hn) (by simp) (fun W x hx => by simp at hx))
  go_enter Tryz.func136, Tryz.ntmps136
  go_wp2_with fail
  refine HI.out.mono ?_
  rintro e w1 ⟨rfl, hb⟩
  have h1' : idxG (fun _ : Int => false) [] 0 = -1 := rfl
  rw [h1']
  clear h1'
  go_wp2_with fail
  go_ret
  exact ⟨rfl, hb⟩
end Go.Proofs.YtonilojjahfboaaGreat
