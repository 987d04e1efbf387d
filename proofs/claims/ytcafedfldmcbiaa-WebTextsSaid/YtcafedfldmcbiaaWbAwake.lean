/- awake (layer 21): it returns true. No condition. -/
import Derived.Test.YtcafedfldmcbiaaWb6
namespace Go.Proofs.Ytcafedfldmcbiaa
open Go.RowKit Go.Maps

theorem rightPs_nil : rightPs [] = true := by
  rw [rightPs_end (fun i hi => absurd hi (Nat.not_lt_zero _))]; rfl
theorem bad_a : badS ⟨#[97]⟩ = false := by kernel_rfl
theorem check_a (ib : Nat) (w : World) (hb : w.heap[ib]? = some (.cells #[.int .i64 7] 3 (0, 0))) :
    Calls Try.prog 36 #[.string ⟨#[97]⟩, .slice none 0 0, .slice (some ⟨ib, 0, none⟩) 1 1] w fun e w' => e = .returned (.int .i64 0) ∧ Below w.heap.size w w' := by
  have hi : IsV w (some ⟨ib, 0, none⟩) [7] := fun _ => ⟨ib, 0, rfl, ⟨fun x hx => by rw [List.mem_singleton.1 hx]; constructor <;> omega, fun i x hx => by
    cases i with
    | zero => simp at hx; subst hx; rw [cell_of_blk hb]; rfl
    | succ i => simp at hx, (Array.getElem?_eq_some_iff.1 hb).1⟩⟩
  have h := check_any ⟨#[97]⟩ none (some ⟨ib, 0, none⟩) 0 1 [] [7] w (by unfold maxLen; decide) (fun e => absurd rfl e) hi (by simp) (by simp)
  have e : checkR ⟨#[97]⟩ [] [7] = 0 := by unfold checkR; rw [bad_a, rightPs_nil]; rfl
  rw [e] at h
  exact h
def PbPost (w : World) (e : Ending) (w' : World) : Prop := ∃ b, e = .returned (.tuple #[.slice (some ⟨b, 0, none⟩) 1 1, .int .i64 0]) ∧ w'.heap[b]? = some (.cells #[.int .u8 0] 5) ∧ Below w.heap.size w w'
theorem pbytes_nil (w : World) : Calls Try.prog 52 #[.slice none 0 0] w (PbPost w) := by
  go_enter Try.func52, Try.ntmps52
  go_wp2_with fail
  have hp := pright_any none 0 [] w (fun e => absurd rfl e) (by simp)
  rw [rightPs_nil] at hp
  refine hp.mono ?_
  rintro e w1 ⟨rfl, hb⟩
  clear hp
  go_wp2_with fail
  refine wp_loop_rounds 1 ?_
  rw [rounds_succ]
  go_wp2_with fail
  go_ret2
  exact ⟨_, rfl, heap_new w1 _, below_al hb _⟩
theorem text_a (w : World) : Calls Try.prog 37 #[.string ⟨#[97]⟩, .slice none 0 0] w fun e w' => e = .returned (.string ⟨#[1, 97, 0]⟩) ∧ Below w.heap.size w w' := by
  have h1 : ∀ w, (Op.stringOp .add ⟨#[1]⟩ ⟨#[97]⟩).run Try.prog w = .ok (.string ⟨#[1, 97]⟩) w := fun w => run_string_add_sum w _ _ (by decide)
  have h2 : ∀ w, (Op.stringOp .add ⟨#[1, 97]⟩ ⟨#[0]⟩).run Try.prog w = .ok (.string ⟨#[1, 97, 0]⟩) w := fun w => run_string_add_sum w _ _ (by decide)
  go_enter Try.func37, Try.ntmps37
  go_wp2_with fail
  refine (pbytes_nil _).mono ?_
  rintro e w1 ⟨b, rfl, hb, bel⟩
  have hlt := (Array.getElem?_eq_some_iff.1 hb).1
  have c0 := cell_of_blk hb 0
  simp at c0
  go_wp2_with (first | (refine wpList_toStr _ rfl (.tmp 15) rfl ⟨w1.heap.size, 0, none⟩ 1 1 [1] rfl rfl ?hta ?_) | (refine wpList_toStr _ rfl (.tmp 19) rfl ⟨b, 0, none⟩ 1 1 [0] rfl rfl ?htb ?_))
  case hta =>
    intro j hj
    have : j = 0 := by simp at hj; omega
    subst this
    rw [add_none]
    exact (cell_of_blk (heap_new w1 _) 0).trans rfl
  case htb =>
    intro j hj
    have : j = 0 := by simp at hj; omega
    subst this
    rw [add_none]
    refine (World.cell?_of_block (a := ⟨b, 0, none⟩) (Below.heap_alloc w1 _ b hlt)).trans ?_
    exact c0
  go_ret
  exact ⟨rfl, below_al bel _⟩
theorem vertexText_a (w : World) : Calls Try.prog 9 #[.agg #[.int .i64 7, .string ⟨#[97]⟩, .slice none 0 0]] w fun e w' => e = .returned (.tuple #[.string ⟨#[1, 97, 0]⟩, .int .i64 0]) ∧ Below w.heap.size w w' := by
  go_enter Try.func9, Try.ntmps9
  go_wp2_with fail
  have hn := heap_new (w.alloc (.cells #[.int .i64 7, .string ⟨#[97]⟩, .slice none 0 0] 24)) (.cells #[.int .i64 7] 3)
  rw [size_alloc] at hn
  refine (check_a (w.heap.size + 1) _ hn).mono ?_
  rintro e w1 ⟨rfl, hb⟩
  have e0 := (hb.block w.heap.size (by simp; omega)).trans ((Below.heap_alloc _ _ _ (by simp)).trans (heap_new w _))
  have c1 := cell_of_blk e0 1
  have c2 := cell_of_blk e0 2
  simp at c1 c2
  have hB := below_then (below_al (below_box w _) _) hb
  clear e0 hn hb
  go_wp2_with fail
  refine (text_a _).mono ?_
  rintro e w2 ⟨rfl, hb2⟩
  go_wp2_with fail
  go_ret2
  exact ⟨rfl, below_then hB hb2⟩
def EaPost (w : World) (e : Ending) (w' : World) : Prop := ∃ b, e = .returned (.slice (some ⟨b, 0, none⟩) 1 1) ∧ w'.heap[b]? = some (.cells #[.string ⟨#[76, 97]⟩, .string ⟨#[0, 0, 0, 0, 7]⟩] 39) ∧ Below w.heap.size w w'
set_option maxHeartbeats 400000 in
theorem entries_a (w : World) : Calls Try.prog 12 #[.agg #[.int .i64 7, .string ⟨#[97]⟩, .slice none 0 0]] w (EaPost w) := by
  go_enter Try.func12, Try.ntmps12
  go_wp2_with fail
  have hn := heap_new (w.alloc (.cells #[.int .i64 7, .string ⟨#[97]⟩, .slice none 0 0] 24)) (.cells #[.int .i64 7] 3)
  rw [size_alloc] at hn
  refine (check_a (w.heap.size + 1) _ hn).mono ?_
  rintro e w1 ⟨rfl, hb⟩
  have e0 := (hb.block w.heap.size (by simp; omega)).trans ((Below.heap_alloc _ _ _ (by simp)).trans (heap_new w _))
  have hB := below_then (below_al (below_box w _) _) hb
  have ks : ∀ w', Below w1.heap.size w1 w' → Below w1.heap.size w1 w' ∧ w'.cell? ⟨w.heap.size, 0, none⟩ = some (.int .i64 7) ∧ w'.cell? ⟨w.heap.size, 1, none⟩ = some (.string ⟨#[97]⟩) ∧ w'.cell? ⟨w.heap.size, 2, none⟩ = some (.slice none 0 0) := fun w' hb' => by
    have e := (hb'.block _ (Array.getElem?_eq_some_iff.1 e0).1).trans e0
    exact ⟨hb', by rw [cell_of_blk e]; rfl, by rw [cell_of_blk e]; rfl, by rw [cell_of_blk e]; rfl⟩
  have KS := Lib.hid ks
  clear e0 hn hb ks
  go_wp2_with fail
  go_region_held3 (fun w' => Below w1.heap.size w1 w' ∧ w'.cell? ⟨w.heap.size, 0, none⟩ = some (.int .i64 7) ∧ w'.cell? ⟨w.heap.size, 1, none⟩ = some (.string ⟨#[97]⟩) ∧ w'.cell? ⟨w.heap.size, 2, none⟩ = some (.slice none 0 0))
    (first | exact KS.out _ (Below.refl _ _).drew | (go_split_ands; refine KS.out _ (below_then ?_ hbc); assumption) | (go_split_ands; refine KS.out _ (below_al ?_ _); assumption))
    (first | (go_at_call 25; refine (labelIndex_any ⟨#[97]⟩ _ (by decide)).mono ?_; rintro e wl ⟨rfl, rfl⟩) | (go_at_call 39; refine (five_any 7 _ (by omega)).mono ?_; rintro e wc ⟨rfl, hbc⟩))
  go_split_ands
  go_wp2_with fail
  refine wp_loop_rounds 1 ?_
  rw [rounds_succ]
  go_wp2_with fail
  go_ret
  exact ⟨_, rfl, heap_new wc _, below_then hB (by assumption)⟩

set_option maxHeartbeats 400000 in
theorem awake21_any (w : World) : Calls Try.prog 7 #[] w fun e w' => e = .returned (.bool true) ∧ Below w.heap.size w w' := by
  go_enter Try.func7, Try.ntmps7
  go_wp2_with fail
  refine (vertexText_a _).mono ?_
  rintro e w1 ⟨rfl, hb1⟩
  have e0 := (hb1.block w.heap.size (by simp)).trans (heap_new w _)
  have c0 := cell_of_blk e0 0
  have c1 := cell_of_blk e0 1
  have c2 := cell_of_blk e0 2
  simp at c0 c1 c2
  have hB1 := below_then (below_box w _) hb1
  have hlw := (Array.getElem?_eq_some_iff.1 e0).1
  clear e0 hb1
  go_wp2_with fail
  refine (entries_a _).mono ?_
  rintro e w2 ⟨b, rfl, hb, bel⟩
  have d0 := cell_of_blk hb 0
  have d1 := cell_of_blk hb 1
  simp at d0 d1
  have hlb := (Array.getElem?_eq_some_iff.1 hb).1
  have hB2 := below_then hB1 bel
  clear hb bel
  go_wp2_with fail
  refine (vertexKey_any 7 _).mono ?_
  rintro e w3 ⟨rfl, hb3⟩
  go_wp2_with fail
  go_ret
  exact ⟨rfl, below_then hB2 hb3⟩
end Go.Proofs.Ytcafedfldmcbiaa
