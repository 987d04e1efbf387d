/- cobwebref01: letter, Runes, Right, Compare. Conditions: each contract's own premises. -/
import Derived.Test.YtonilojjahfboaaGreatGc2
import Derived.Lib.OthersKept
namespace Go.Proofs.YtonilojjahfboaaGreat
open Go.RowKit Go.Maps Go.Lib

theorem r1letter_any (r : Int) (w : World) : Calls Tryz.prog 222 #[.int .i32 r] w fun e w' => e = .returned (.bool (letterB r)) ∧ w = w' := by
  rcases letter_ways r with h | h | h | h | h | h | h | h | h | h | h | h | h
  all_goals
    have e1 : (r == 95) = decide (r = 95) := by rw [Bool.eq_iff_iff]; simp
    have e2 : (r != 215) = !decide (r = 215) := by rw [Bool.eq_iff_iff]; simp
    have e3 : (r != 247) = !decide (r = 247) := by rw [Bool.eq_iff_iff]; simp
    first | rw [decide_eq_true (show r = 95 by omega)] at e1 | rw [decide_eq_false (show ¬ r = 95 by omega)] at e1
    first | rw [decide_eq_true (show r = 215 by omega)] at e2 | rw [decide_eq_false (show ¬ r = 215 by omega)] at e2
    first | rw [decide_eq_true (show r = 247 by omega)] at e3 | rw [decide_eq_false (show ¬ r = 247 by omega)] at e3
    simp only [Bool.not_true, Bool.not_false] at e2 e3
    have HL := Lib.hid h
    try (obtain ⟨h1, h2⟩ := h)
    go_enter Tryz.func222, Tryz.ntmps222
    go_wp2
    go_ret
    exact ⟨ret_bool (by have h' := HL.out; unfold letterB; rw [Bool.eq_iff_iff]; simp only [decide_eq_true_eq, Bool.false_eq_true, true_iff, false_iff]; first | omega | decide), rfl⟩
theorem infoRn : (Tryz.prog.info? 21).map (fun i => (i.zero, i.size, i.bytes)) = some (some (.int .i32 0), 1, 4) := by kernel_rfl
/-- a slice value that owns runes, in a block from B on -/
def RnO (w : World) (B : Nat) (v : Value) (l : List Int) : Prop := w.ownsRow B 21 1 v l.length (l.map (Value.int .i32))
theorem RnO.nil (w : World) (B : Nat) : RnO w B (.slice none 0 0) [] := ⟨rfl, .inl ⟨rfl, rfl⟩⟩
theorem RnO.below {w w' : World} {B : Nat} {v : Value} {l} (h : RnO w B v l) (hb : Below w.heap.size w w') : RnO w' B v l :=
  ownsRow_of_block h (fun k hk => hb.block k (h.lt k hk).2)
theorem RnO.alloc {w : World} {B : Nat} {v : Value} {l} (h : RnO w B v l) (X : Obj) : RnO (w.alloc X) B v l := h.below (below_box w X)
theorem RnO.mono {w : World} {B B' : Nat} {v : Value} {l} (h : RnO w B v l) (hB : B' ≤ B) : RnO w B' v l := by
  refine ⟨h.1, ?_⟩
  rcases h.2 with h' | ⟨g, cap, cur, h1, h2, h3⟩
  · exact .inl h'
  · exact .inr ⟨g, cap, cur, h1, by omega, h3⟩
/-- as it is read: nil, or runes in a block -/
theorem RnO.at' {w : World} {B : Nat} {v : Value} {l : List Int} (h : RnO w B v l) : ∃ a cap, v = .slice a l.length cap ∧ (l ≠ [] → ∃ b, a = some ⟨b, 0, none⟩ ∧ RsAt w b l) := by
  rcases h.2 with ⟨rfl, hl⟩ | ⟨g, cap, cur, h1, h2, h3, h4, h5, h6, h7⟩
  · exact ⟨none, 0, by rw [hl], fun e => absurd (List.eq_nil_of_length_eq_zero hl) e⟩
  · refine ⟨_, cap, h1, fun _ => ⟨g, rfl, ⟨fun i x hx => ?_, (Array.getElem?_eq_some_iff.1 h3).1⟩⟩⟩
    have := h.cells (g := g) (by rw [h1]; rfl) i (.int .i32 x) (by simp [hx])
    rw [add_none, Nat.zero_add] at this
    exact this
theorem wpList_appR (w : World) {ops : Array Oper} {rest : List Oper} {o : Oper} {a : Act} {Q : Exit → Act → World → Prop} (hgd : o.guard = none) (s x : Operand)
    (ho : o.op = .call { callee := .builtin .append, args := #[s, x], argTypes := #[318, 318] }) (B : Nat) (v : Value) (l : List Int) (hs : a.eval s = v) (hown : RnO w B v l)
    (b c : Nat) (r : Int) (hx : a.eval x = .slice (some ⟨b, 0, none⟩) 1 c) (hnew : w.heap[b]? = some (.cells #[.int .i32 r] 21 (0, 0)))
    (hlen : l.length ≤ 4000000) (hB : B ≤ w.heap.size)
    (h : ∀ v' w', RnO w' B v' (l ++ [r]) → Below B w w' → w.grownBy w' v.ownBlock → wpList Tryz.prog ops Q rest (a.put o.dst v') w') :
    wpList Tryz.prog ops Q (o :: rest) a w := by
  obtain ⟨i0, hi, hz0, hz1, hz2⟩ := info_parts infoRn
  refine wpList_append_own_at w hgd s x 318 ho B 21 i0 _ 1 4 Tryz.underlying318 hi hz0 hz1 hz2 rfl (by omega) v l.length (l.map (Value.int .i32)) hs hown ⟨b, 0, none⟩ 1 c [.int .i32 r] hx rfl ?_ (by simp [Value.oneCell']) (by unfold maxLen; omega) (by omega) hB ?_
  · intro j u hu
    rw [add_none, cell_of_blk hnew]
    match j, hu with
    | 0, hu => simpa using hu
    | j + 1, hu => simp at hu
  · intro v' w' h1 h2 h3 h4
    refine h v' w' ?_ ⟨h2.os, h2.tape, h2.output, h2.size, fun k hk => h2.block k (by omega) (fun e => by have := (hown.lt k e.symm).1; omega)⟩ h2
    unfold RnO
    rw [List.length_append, List.map_append]
    exact h1
def RnPost (w : World) (s : ByteArray) (e : Ending) (w' : World) : Prop := ∃ r, e = .returned r ∧ RnO w' w.heap.size r (runes s) ∧ Below w.heap.size w w'
def RnRel (w : World) (s : ByteArray) (out : Value) (wr : World) : Prop :=
  ∃ (p : Nat) (acc : List Int), acc.length ≤ p ∧ wr.heap[w.heap.size]? = some (.stringIter s p) ∧ RnO wr (w.heap.size + 1) out acc ∧ Hid (runes s = acc ++ runesFrom s p) ∧ Below w.heap.size w wr
set_option maxRecDepth 100000 in
set_option maxHeartbeats 1000000 in
theorem r1runes_any (s : ByteArray) (w : World) (hs : s.size ≤ 2000000) : Calls Tryz.prog 221 #[.string s] w (RnPost w s) := by
  have HS : Hid (RnRel w s (.slice none 0 0) (w.iter s 0)) := Lib.hid ⟨0, [], Nat.le_refl _, w.iter_heap s 0, RnO.nil _ _, Lib.hid (by rw [runes_from]; rfl), below_iter (Below.refl _ _) (Nat.le_refl _) s 0⟩
  go_enter Tryz.func221, Tryz.ntmps221
  go_wp2_with fail
  go_loopw [3] (fun out wr => RnRel w s out wr) (fun _ wr => s.size - wr.iterPos w.heap.size)
  case atStart => exact HS.out
  case round =>
    obtain ⟨p, acc, hap, hit, hO, HR, hbel⟩ := hrel
    have hpos : wr.iterPos w.heap.size = p := by unfold World.iterPos; rw [hit]
    have hlw : w.heap.size < wr.heap.size := (Array.getElem?_eq_some_iff.1 hit).1
    by_cases hlt : p < s.size
    · have nx := fun ty => run_next_any_at (P := Tryz.prog) wr w.heap.size s p ty hit hlt
      have hw1 := decode_pos s p hlt
      rw [runesFrom_step hlt] at HR
      obtain ⟨rw_, hrw⟩ : ∃ v, Utf8.decode s p = v := ⟨_, rfl⟩
      rw [hrw] at nx HR hw1
      obtain ⟨r, wd⟩ := rw_
      dsimp only at nx HR hw1
      have HIT := Lib.hid (iterAt_heap wr w.heap.size s p (p + wd) hit)
      obtain ⟨wi, hwi⟩ : ∃ wi, wi = wr.iterAt w.heap.size s (p + wd) := ⟨_, rfl⟩
      have hbi : Below w.heap.size w wi := by rw [hwi]; exact below_iterAt hbel (Nat.le_refl _) s _
      have hOi := ownsRow_of_block (w' := wi) hO (fun k hk => by rw [hwi]; exact iterAt_other wr w.heap.size k s _ (by have := (hO.lt k hk).1; omega))
      have hsz : wi.heap.size = wr.heap.size := by rw [hwi]; exact iterAt_size _ _ _ _
      rw [← hwi] at HIT nx
      have HOI := Lib.hid hOi
      have HBI := Lib.hid hbi
      have hlw2 : w.heap.size < wi.heap.size := by omega
      clear hwi hrw hit hO hOi hbel hbi hlw hsz
      go_wp2_with (at_builtin; go_loud (refine wpList_appR _ rfl (.tmp 11) (.tmp 13) rfl (w.heap.size + 1) _ acc rfl (RnO.alloc HOI.out _) wi.heap.size 1 r rfl (heap_new wi _) (by omega) (by simp; omega) ?_; intro v1 w3 o1 b1 g1))
      have hit3 : w3.heap[w.heap.size]? = some (.stringIter s (p + wd)) := (b1.block _ (by omega)).trans ((Below.heap_alloc _ _ _ hlw2).trans HIT.out)
      refine ⟨⟨p + wd, acc ++ [(r : Int)], by simp; omega, hit3, o1, Lib.hid (by rw [HR.out]; simp), (below_al HBI.out _).trans (b1.mono (by omega))⟩, ?_⟩
      have : w3.iterPos w.heap.size = p + wd := by unfold World.iterPos; rw [hit3]
      rw [this, hpos]; omega
    · have nx := fun ty => run_next_end_at (P := Tryz.prog) wr w.heap.size s p ty hit hlt
      have HE : Hid (runes s = acc) := Lib.hid (by rw [HR.out, runesFrom_end hlt]; simp)
      clear hit
      go_wp2_with fail
      go_ret
      exact ⟨_, rfl, by rw [HE.out]; exact hO.mono (by omega), hbel⟩
/-- is a text no name? by its runes -/
theorem badFrom_cons {n : Nat} {r : Int} {t : List Int} (h : letterB r = false) (h2 : n = 0 ∨ r < 48 ∨ 57 < r) : badFrom n (r :: t) = true := by
  unfold badFrom
  rw [h]
  have : (n == 0 || decide (r < 48) || decide (57 < r)) = true := by
    rcases h2 with h2 | h2 | h2 <;> simp [h2]
  simp [this]
theorem badFrom_good {n : Nat} {r : Int} {t : List Int} (h : letterB r = true ∨ (n ≠ 0 ∧ ¬ r < 48 ∧ ¬ 57 < r)) : badFrom n (r :: t) = badFrom (n + 1) t := by
  have e : (!letterB r && (n == 0 || decide (r < 48) || decide (57 < r))) = false := by
    rcases h with h | ⟨h1, h2, h3⟩
    · simp [h]
    · simp [h1]
      omega
  show (if (!letterB r && (n == 0 || decide (r < 48) || decide (57 < r))) = true then true else badFrom (n + 1) t) = _
  rw [e]
  rfl
theorem badFrom_long : ∀ (n : Nat) (l : List Int), 32 < n + l.length → badFrom n l = true
  | n, [], h => by unfold badFrom; simp at h; simp [h]
  | n, r :: t, h => by
    cases h1 : letterB r
    · by_cases h2 : n = 0 ∨ r < 48 ∨ 57 < r
      · exact badFrom_cons h1 h2
      · rw [badFrom_good (.inr (by omega))]
        exact badFrom_long (n + 1) t (by simp at h; omega)
    · rw [badFrom_good (.inl h1)]
      exact badFrom_long (n + 1) t (by simp at h; omega)
theorem badFrom_end {n : Nat} (h : 0 < n) (h2 : n ≤ 32) : badFrom n [] = false := by unfold badFrom; simp; omega
set_option maxRecDepth 100000 in
set_option maxHeartbeats 2000000 in
theorem r1right_any (s : ByteArray) (w : World) (hs : s.size ≤ 2000000) : Calls Tryz.prog 126 #[.string s] w fun e w' => e = .returned (.bool (!badS s)) ∧ Below w.heap.size w w' := by
  have hlen : (runes s).length ≤ 2000000 := Nat.le_trans (runes_len s) hs
  have HB : Hid (badS s = badFrom 0 (runes s)) := Lib.hid rfl
  go_enter Tryz.func126, Tryz.ntmps126
  go_wp2_with fail
  refine (r1runes_any s w hs).mono ?_
  rintro e w1 ⟨v, rfl, hO, hb1⟩
  obtain ⟨a, cap, rfl, hat⟩ := hO.at'
  have HAT := Lib.hid hat
  obtain ⟨l, hl⟩ : ∃ l, l = runes s := ⟨_, rfl⟩
  rw [← hl] at HB HAT hlen ⊢
  clear hO hat hl
  by_cases h1 : l.length < 1
  · have HE : Hid (badS s = true) := Lib.hid (by have e : l = [] := List.eq_nil_of_length_eq_zero (by omega); rw [HB.out, e]; rfl)
    go_wp2_with fail
    go_ret
    exact ⟨by rw [HE.out]; rfl, hb1⟩
  · obtain ⟨b, rfl, hR⟩ := HAT.out (fun e => by rw [e] at h1; simp at h1)
    have hlb := hR.lt
    by_cases h2 : 32 < l.length
    · have HE : Hid (badS s = true) := Lib.hid (by rw [HB.out, badFrom_long _ _ (by omega)])
      go_wp2_with fail
      go_ret
      exact ⟨by rw [HE.out]; rfl, hb1⟩
    · obtain ⟨r0, h0⟩ : ∃ r, l[0]? = some r := ⟨_, List.getElem?_eq_getElem (by omega)⟩
      have q0 := hR.cells 0 r0 h0
      have HR := Lib.hid hR
      have hd0 : l = r0 :: l.drop 1 := by
        have := List.drop_eq_getElem_cons (l := l) (i := 0) (by omega)
        rw [List.getElem?_eq_getElem (by omega)] at h0
        injection h0 with h0
        rw [h0] at this
        exact this
      have HD0 := Lib.hid hd0
      clear hR hd0 h0
      cases hlet : letterB r0
      · have HE : Hid (badS s = true) := Lib.hid (by rw [HB.out, HD0.out, badFrom_cons hlet (.inl rfl)])
        go_wp2_with (go_at_call 222; refine (r1letter_any _ _).mono ?_; rintro e w' ⟨rfl, rfl⟩)
        go_ret
        exact ⟨by rw [HE.out]; rfl, hb1⟩
      · have HS : Hid (badS s = badFrom 1 (l.drop 1)) := Lib.hid (by
          rw [HB.out]
          conv => lhs; rw [HD0.out]
          rw [badFrom_good (.inl hlet)])
        go_wp2_with (go_at_call 222; refine (r1letter_any _ _).mono ?_; rintro e w' ⟨rfl, rfl⟩)
        clear q0 hlet
        go_loop [4] (fun i => ∃ k : Nat, 1 ≤ k ∧ k ≤ l.length ∧ i = .int .i64 k ∧ Hid (badS s = badFrom k (l.drop k))) (fun i => l.length - (intOf i).toNat)
        case atStart => exact ⟨1, by omega, by omega, rfl, HS⟩
        case round =>
          obtain ⟨k, hk1, hk2, rfl, HT⟩ := hrel
          by_cases hlt : k < l.length
          · obtain ⟨r, hr⟩ : ∃ r, l[k]? = some r := ⟨_, List.getElem?_eq_getElem hlt⟩
            have q1 := HR.out.cells k r hr
            have hdk : l.drop k = r :: l.drop (k + 1) := by
              have := List.drop_eq_getElem_cons hlt
              rw [List.getElem?_eq_getElem hlt] at hr
              injection hr with hr
              rw [hr] at this
              exact this
            rw [hdk] at HT
            clear hdk hr
            cases hl2 : letterB r
            · by_cases h3 : r < 48
              · have HE : Hid (badS s = true) := Lib.hid (by rw [HT.out, badFrom_cons hl2 (by omega)])
                go_wp2_with (go_at_call 222; refine (r1letter_any _ _).mono ?_; rintro e w' ⟨rfl, rfl⟩)
                go_ret
                exact ⟨by rw [HE.out]; rfl, hb1⟩
              · by_cases h4 : 57 < r
                · have HE : Hid (badS s = true) := Lib.hid (by rw [HT.out, badFrom_cons hl2 (by omega)])
                  go_wp2_with (go_at_call 222; refine (r1letter_any _ _).mono ?_; rintro e w' ⟨rfl, rfl⟩)
                  go_ret
                  exact ⟨by rw [HE.out]; rfl, hb1⟩
                · have HE : Hid (badS s = badFrom (k + 1) (l.drop (k + 1))) := Lib.hid (by rw [HT.out, badFrom_good (.inr (by omega))])
                  go_wp2_with (go_at_call 222; refine (r1letter_any _ _).mono ?_; rintro e w' ⟨rfl, rfl⟩)
                  go_round
                  case rel => exact ⟨k + 1, by omega, by omega, by go_num, HE⟩
                  case measure => simp [intOf]; omega
            · have HE : Hid (badS s = badFrom (k + 1) (l.drop (k + 1))) := Lib.hid (by rw [HT.out, badFrom_good (.inl hl2)])
              go_wp2_with (go_at_call 222; refine (r1letter_any _ _).mono ?_; rintro e w' ⟨rfl, rfl⟩)
              go_round
              case rel => exact ⟨k + 1, by omega, by omega, by go_num, HE⟩
              case measure => simp [intOf]; omega
          · obtain rfl : k = l.length := by omega
            have HE : Hid (badS s = false) := Lib.hid (by rw [HT.out, List.drop_length, badFrom_end (by omega) (by omega)])
            go_wp2_with fail
            go_ret
            exact ⟨by rw [HE.out]; rfl, hb1⟩
end Go.Proofs.YtonilojjahfboaaGreat
