/- cobwebref01: letter, Runes, Right, Compare. Conditions: each contract's own premises. cobwebref01.Compare. Conditions: the contract's own premises. cobwebref03.Right. Conditions: the contract's own premises. cobwebref16.Check. Conditions: the contract's own premises. A graph, plainly: lists of vertices and edges by rising ids. Conditions: each lemma's own premises. -/
import Derived.Test.YtkbmipmegljidaaGreatWsK
import Derived.Lib.OthersKept
namespace Go.Proofs.YtkbmipmegljidaaGreat
open Go.RowKit Go.Maps Go.Lib

theorem r1letter_any (r : Int) (w : World) : Calls Tryz.prog 112 #[.int .i32 r] w fun e w' => e = .returned (.bool (letterB r)) ∧ w = w' := by
  rcases letter_ways r with h | h | h | h | h | h | h | h | h | h | h | h | h
  all_goals
    have e1 : (r == 95) = decide (r = 95) := by rw [Bool.eq_iff_iff]; simp
    have e2 : (r != 215) = !decide (r = 215) := by rw [Bool.eq_iff_iff]; simp
    have e3 : (r != 247) = !decide (r = 247) := by rw [Bool.eq_iff_iff]; simp
    first | rw [decide_eq_true (show r = 95 by omega)] at e1 | rw [decide_eq_false (show ¬ r = 95 by omega)] at e1
    first | rw [decide_eq_true (show r = 215 by omega)] at e2 | rw [decide_eq_false (show ¬ r = 215 by omega)] at e2
    first | rw [decide_eq_true (show r = 247 by omega)] at e3 | rw [decide_eq_false (show ¬ r = 247 by omega)] at e3
    simp only [Bool.not_true, Bool.not_false] at e2 e3
    have HL := Lib.hid h
    try (obtain ⟨h1, h2⟩ := h)
    go_enter Tryz.func112, Tryz.ntmps112
    go_wp2
    go_ret
    exact ⟨ret_bool (by have h' := HL.out; unfold letterB; rw [Bool.eq_iff_iff]; simp only [decide_eq_true_eq, Bool.false_eq_true, true_iff, false_iff]; first | omega | decide), rfl⟩
theorem infoRn : (Tryz.prog.info? 21).map (fun i => (i.zero, i.size, i.bytes)) = some (some (.int .i32 0), 1, 4) := by kernel_rfl
/-- a slice value that owns runes, in a block from B on -/
def RnO (w : World) (B : Nat) (v : Value) (l : List Int) : Prop := w.ownsRow B 21 1 v l.length (l.map (Value.int .i32))
theorem RnO.nil (w : World) (B : Nat) : RnO w B (.slice none 0 0) [] := ⟨rfl, .inl ⟨rfl, rfl⟩⟩
theorem RnO.below {w w' : World} {B : Nat} {v : Value} {l} (h : RnO w B v l) (hb : Below w.heap.size w w') : RnO w' B v l :=
  ownsRow_of_block h (fun k hk => hb.block k (h.lt k hk).2)
theorem RnO.alloc {w : World} {B : Nat} {v : Value} {l} (h : RnO w B v l) (X : Obj) : RnO (w.alloc X) B v l := h.below (below_box w X)
theorem RnO.mono {w : World} {B B' : Nat} {v : Value} {l} (h : RnO w B v l) (hB : B' ≤ B) : RnO w B' v l := by
  refine ⟨h.1, ?_⟩
  rcases h.2 with h' | ⟨g, cap, cur, h1, h2, h3⟩
  · exact .inl h'
  · exact .inr ⟨g, cap, cur, h1, by omega, h3⟩
/-- as it is read: nil, or runes in a block -/
theorem RnO.at' {w : World} {B : Nat} {v : Value} {l : List Int} (h : RnO w B v l) : ∃ a cap, v = .slice a l.length cap ∧ (l ≠ [] → ∃ b, a = some ⟨b, 0, none⟩ ∧ RsAt w b l) := by
  rcases h.2 with ⟨rfl, hl⟩ | ⟨g, cap, cur, h1, h2, h3, h4, h5, h6, h7⟩
  · exact ⟨none, 0, by rw [hl], fun e => absurd (List.eq_nil_of_length_eq_zero hl) e⟩
  · refine ⟨_, cap, h1, fun _ => ⟨g, rfl, ⟨fun i x hx => ?_, (Array.getElem?_eq_some_iff.1 h3).1⟩⟩⟩
    have := h.cells (g := g) (by rw [h1]; rfl) i (.int .i32 x) (by simp [hx])
    rw [add_none, Nat.zero_add] at this
    exact this
theorem wpList_appR (w : World) {ops : Array Oper} {rest : List Oper} {o : Oper} {a : Act} {Q : Exit → Act → World → Prop} (hgd : o.guard = none) (s x : Operand)
    (ho : o.op = .call { callee := .builtin .append, args := #[s, x], argTypes := #[188, 188] }) (B : Nat) (v : Value) (l : List Int) (hs : a.eval s = v) (hown : RnO w B v l)
    (b c : Nat) (r : Int) (hx : a.eval x = .slice (some ⟨b, 0, none⟩) 1 c) (hnew : w.heap[b]? = some (.cells #[.int .i32 r] 21 (0, 0)))
    (hlen : l.length ≤ 4000000) (hB : B ≤ w.heap.size)
    (h : ∀ v' w', RnO w' B v' (l ++ [r]) → Below B w w' → w.grownBy w' v.ownBlock → wpList Tryz.prog ops Q rest (a.put o.dst v') w') :
    wpList Tryz.prog ops Q (o :: rest) a w := by
  obtain ⟨i0, hi, hz0, hz1, hz2⟩ := info_parts infoRn
  refine wpList_append_own_at w hgd s x 188 ho B 21 i0 _ 1 4 Tryz.underlying188 hi hz0 hz1 hz2 rfl (by omega) v l.length (l.map (Value.int .i32)) hs hown ⟨b, 0, none⟩ 1 c [.int .i32 r] hx rfl ?_ (by simp [Value.oneCell']) (by unfold maxLen; omega) (by omega) hB ?_
  · intro j u hu
    rw [add_none, cell_of_blk hnew]
    match j, hu with
    | 0, hu => simpa using hu
    | j + 1, hu => simp at hu
  · intro v' w' h1 h2 h3 h4
    refine h v' w' ?_ ⟨h2.os, h2.tape, h2.output, h2.size, fun k hk => h2.block k (by omega) (fun e => by have := (hown.lt k e.symm).1; omega)⟩ h2
    unfold RnO
    rw [List.length_append, List.map_append]
    exact h1
def RnPost (w : World) (s : ByteArray) (e : Ending) (w' : World) : Prop := ∃ r, e = .returned r ∧ RnO w' w.heap.size r (runes s) ∧ Below w.heap.size w w'
def RnRel (w : World) (s : ByteArray) (out : Value) (wr : World) : Prop :=
  ∃ (p : Nat) (acc : List Int), acc.length ≤ p ∧ wr.heap[w.heap.size]? = some (.stringIter s p) ∧ RnO wr (w.heap.size + 1) out acc ∧ Hid (runes s = acc ++ runesFrom s p) ∧ Below w.heap.size w wr
set_option maxRecDepth 100000 in
set_option maxHeartbeats 1000000 in
theorem r1runes_any (s : ByteArray) (w : World) (hs : s.size ≤ 2000000) : Calls Tryz.prog 111 #[.string s] w (RnPost w s) := by
  have HS : Hid (RnRel w s (.slice none 0 0) (w.iter s 0)) := Lib.hid ⟨0, [], Nat.le_refl _, w.iter_heap s 0, RnO.nil _ _, Lib.hid (by rw [runes_from]; rfl), below_iter (Below.refl _ _) (Nat.le_refl _) s 0⟩
  go_enter Tryz.func111, Tryz.ntmps111
  go_wp2_with fail
  go_loopw [3] (fun out wr => RnRel w s out wr) (fun _ wr => s.size - wr.iterPos w.heap.size)
  case atStart => exact HS.out
  case round =>
    obtain ⟨p, acc, hap, hit, hO, HR, hbel⟩ := hrel
    have hpos : wr.iterPos w.heap.size = p := by unfold World.iterPos; rw [hit]
    have hlw : w.heap.size < wr.heap.size := (Array.getElem?_eq_some_iff.1 hit).1
    by_cases hlt : p < s.size
    · have nx := fun ty => run_next_any_at (P := Tryz.prog) wr w.heap.size s p ty hit hlt
      have hw1 := decode_pos s p hlt
      rw [runesFrom_step hlt] at HR
      obtain ⟨rw_, hrw⟩ : ∃ v, Utf8.decode s p = v := ⟨_, rfl⟩
      rw [hrw] at nx HR hw1
      obtain ⟨r, wd⟩ := rw_
      dsimp only at nx HR hw1
      have HIT := Lib.hid (iterAt_heap wr w.heap.size s p (p + wd) hit)
      obtain ⟨wi, hwi⟩ : ∃ wi, wi = wr.iterAt w.heap.size s (p + wd) := ⟨_, rfl⟩
      have hbi : Below w.heap.size w wi := by rw [hwi]; exact below_iterAt hbel (Nat.le_refl _) s _
      have hOi := ownsRow_of_block (w' := wi) hO (fun k hk => by rw [hwi]; exact iterAt_other wr w.heap.size k s _ (by have := (hO.lt k hk).1; omega))
      have hsz : wi.heap.size = wr.heap.size := by rw [hwi]; exact iterAt_size _ _ _ _
      rw [← hwi] at HIT nx
      have HOI := Lib.hid hOi
      have HBI := Lib.hid hbi
      have hlw2 : w.heap.size < wi.heap.size := by omega
      clear hwi hrw hit hO hOi hbel hbi hlw hsz
      go_wp2_with (at_builtin; go_loud (refine wpList_appR _ rfl (.tmp 11) (.tmp 13) rfl (w.heap.size + 1) _ acc rfl (RnO.alloc HOI.out _) wi.heap.size 1 r rfl (heap_new wi _) (by omega) (by simp; omega) ?_; intro v1 w3 o1 b1 g1))
      have hit3 : w3.heap[w.heap.size]? = some (.stringIter s (p + wd)) := (b1.block _ (by omega)).trans ((Below.heap_alloc _ _ _ hlw2).trans HIT.out)
      refine ⟨⟨p + wd, acc ++ [(r : Int)], by simp; omega, hit3, o1, Lib.hid (by rw [HR.out]; simp), (below_al HBI.out _).trans (b1.mono (by omega))⟩, ?_⟩
      have : w3.iterPos w.heap.size = p + wd := by unfold World.iterPos; rw [hit3]
      rw [this, hpos]; omega
    · have nx := fun ty => run_next_end_at (P := Tryz.prog) wr w.heap.size s p ty hit hlt
      have HE : Hid (runes s = acc) := Lib.hid (by rw [HR.out, runesFrom_end hlt]; simp)
      clear hit
      go_wp2_with fail
      go_ret
      exact ⟨_, rfl, by rw [HE.out]; exact hO.mono (by omega), hbel⟩
/-- is a text no name? by its runes -/
theorem badFrom_cons {n : Nat} {r : Int} {t : List Int} (h : letterB r = false) (h2 : n = 0 ∨ r < 48 ∨ 57 < r) : badFrom n (r :: t) = true := by
  unfold badFrom
  rw [h]
  have : (n == 0 || decide (r < 48) || decide (57 < r)) = true := by
    rcases h2 with h2 | h2 | h2 <;> simp [h2]
  simp [this]
theorem badFrom_good {n : Nat} {r : Int} {t : List Int} (h : letterB r = true ∨ (n ≠ 0 ∧ ¬ r < 48 ∧ ¬ 57 < r)) : badFrom n (r :: t) = badFrom (n + 1) t := by
  have e : (!letterB r && (n == 0 || decide (r < 48) || decide (57 < r))) = false := by
    rcases h with h | ⟨h1, h2, h3⟩
    · simp [h]
    · simp [h1]
      omega
  show (if (!letterB r && (n == 0 || decide (r < 48) || decide (57 < r))) = true then true else badFrom (n + 1) t) = _
  rw [e]
  rfl
theorem badFrom_long : ∀ (n : Nat) (l : List Int), 32 < n + l.length → badFrom n l = true
  | n, [], h => by unfold badFrom; simp at h; simp [h]
  | n, r :: t, h => by
    cases h1 : letterB r
    · by_cases h2 : n = 0 ∨ r < 48 ∨ 57 < r
      · exact badFrom_cons h1 h2
      · rw [badFrom_good (.inr (by omega))]
        exact badFrom_long (n + 1) t (by simp at h; omega)
    · rw [badFrom_good (.inl h1)]
      exact badFrom_long (n + 1) t (by simp at h; omega)
theorem badFrom_end {n : Nat} (h : 0 < n) (h2 : n ≤ 32) : badFrom n [] = false := by unfold badFrom; simp; omega
set_option maxRecDepth 100000 in
set_option maxHeartbeats 2000000 in
theorem r1right_any (s : ByteArray) (w : World) (hs : s.size ≤ 2000000) : Calls Tryz.prog 83 #[.string s] w fun e w' => e = .returned (.bool (!badS s)) ∧ Below w.heap.size w w' := by
  have hlen : (runes s).length ≤ 2000000 := Nat.le_trans (runes_len s) hs
  have HB : Hid (badS s = badFrom 0 (runes s)) := Lib.hid rfl
  go_enter Tryz.func83, Tryz.ntmps83
  go_wp2_with fail
  refine (r1runes_any s w hs).mono ?_
  rintro e w1 ⟨v, rfl, hO, hb1⟩
  obtain ⟨a, cap, rfl, hat⟩ := hO.at'
  have HAT := Lib.hid hat
  obtain ⟨l, hl⟩ : ∃ l, l = runes s := ⟨_, rfl⟩
  rw [← hl] at HB HAT hlen ⊢
  clear hO hat hl
  by_cases h1 : l.length < 1
  · have HE : Hid (badS s = true) := Lib.hid (by have e : l = [] := List.eq_nil_of_length_eq_zero (by omega); rw [HB.out, e]; rfl)
    go_wp2_with fail
    go_ret
    exact ⟨by rw [HE.out]; rfl, hb1⟩
  · obtain ⟨b, rfl, hR⟩ := HAT.out (fun e => by rw [e] at h1; simp at h1)
    have hlb := hR.lt
    by_cases h2 : 32 < l.length
    · have HE : Hid (badS s = true) := Lib.hid (by rw [HB.out, badFrom_long _ _ (by omega)])
      go_wp2_with fail
      go_ret
      exact ⟨by rw [HE.out]; rfl, hb1⟩
    · obtain ⟨r0, h0⟩ : ∃ r, l[0]? = some r := ⟨_, List.getElem?_eq_getElem (by omega)⟩
      have q0 := hR.cells 0 r0 h0
      have HR := Lib.hid hR
      have hd0 : l = r0 :: l.drop 1 := by
        have := List.drop_eq_getElem_cons (l := l) (i := 0) (by omega)
        rw [List.getElem?_eq_getElem (by omega)] at h0
        injection h0 with h0
        rw [h0] at this
        exact this
      have HD0 := Lib.hid hd0
      clear hR hd0 h0
      cases hlet : letterB r0
      · have HE : Hid (badS s = true) := Lib.hid (by rw [HB.out, HD0.out, badFrom_cons hlet (.inl rfl)])
        go_wp2_with (go_at_call 112; refine (r1letter_any _ _).mono ?_; rintro e w' ⟨rfl, rfl⟩)
        go_ret
        exact ⟨by rw [HE.out]; rfl, hb1⟩
      · have HS : Hid (badS s = badFrom 1 (l.drop 1)) := Lib.hid (by
          rw [HB.out]
          conv => lhs; rw [HD0.out]
          rw [badFrom_good (.inl hlet)])
        go_wp2_with (go_at_call 112; refine (r1letter_any _ _).mono ?_; rintro e w' ⟨rfl, rfl⟩)
        clear q0 hlet
        go_loop [4] (fun i => ∃ k : Nat, 1 ≤ k ∧ k ≤ l.length ∧ i = .int .i64 k ∧ Hid (badS s = badFrom k (l.drop k))) (fun i => l.length - (intOf i).toNat)
        case atStart => exact ⟨1, by omega, by omega, rfl, HS⟩
        case round =>
          obtain ⟨k, hk1, hk2, rfl, HT⟩ := hrel
          by_cases hlt : k < l.length
          · obtain ⟨r, hr⟩ : ∃ r, l[k]? = some r := ⟨_, List.getElem?_eq_getElem hlt⟩
            have q1 := HR.out.cells k r hr
            have hdk : l.drop k = r :: l.drop (k + 1) := by
              have := List.drop_eq_getElem_cons hlt
              rw [List.getElem?_eq_getElem hlt] at hr
              injection hr with hr
              rw [hr] at this
              exact this
            rw [hdk] at HT
            clear hdk hr
            cases hl2 : letterB r
            · by_cases h3 : r < 48
              · have HE : Hid (badS s = true) := Lib.hid (by rw [HT.out, badFrom_cons hl2 (by omega)])
                go_wp2_with (go_at_call 112; refine (r1letter_any _ _).mono ?_; rintro e w' ⟨rfl, rfl⟩)
                go_ret
                exact ⟨by rw [HE.out]; rfl, hb1⟩
              · by_cases h4 : 57 < r
                · have HE : Hid (badS s = true) := Lib.hid (by rw [HT.out, badFrom_cons hl2 (by omega)])
                  go_wp2_with (go_at_call 112; refine (r1letter_any _ _).mono ?_; rintro e w' ⟨rfl, rfl⟩)
                  go_ret
                  exact ⟨by rw [HE.out]; rfl, hb1⟩
                · have HE : Hid (badS s = badFrom (k + 1) (l.drop (k + 1))) := Lib.hid (by rw [HT.out, badFrom_good (.inr (by omega))])
                  go_wp2_with (go_at_call 112; refine (r1letter_any _ _).mono ?_; rintro e w' ⟨rfl, rfl⟩)
                  go_round
                  case rel => exact ⟨k + 1, by omega, by omega, by go_num, HE⟩
                  case measure => simp [intOf]; omega
            · have HE : Hid (badS s = badFrom (k + 1) (l.drop (k + 1))) := Lib.hid (by rw [HT.out, badFrom_good (.inl hl2)])
              go_wp2_with (go_at_call 112; refine (r1letter_any _ _).mono ?_; rintro e w' ⟨rfl, rfl⟩)
              go_round
              case rel => exact ⟨k + 1, by omega, by omega, by go_num, HE⟩
              case measure => simp [intOf]; omega
          · obtain rfl : k = l.length := by omega
            have HE : Hid (badS s = false) := Lib.hid (by rw [HT.out, List.drop_length, badFrom_end (by omega) (by omega)])
            go_wp2_with fail
            go_ret
            exact ⟨by rw [HE.out]; rfl, hb1⟩
end Go.Proofs.YtkbmipmegljidaaGreat
namespace Go.Proofs.YtkbmipmegljidaaGreat
open Go.RowKit Go.Maps Go.Lib

theorem cmpL_short {a b : List Int} {k : Nat} (ha : ¬ k < a.length) (hka : k ≤ a.length) (hb : k < b.length) : cmpL (a.drop k) (b.drop k) = -1 := by
  rw [cmpL_end (by omega) (by omega), if_pos (by omega)]
theorem cmpL_both {a b : List Int} {k : Nat} (hka : k = a.length) (hkb : k = b.length) : cmpL (a.drop k) (b.drop k) = 0 := by
  rw [cmpL_end (by omega) hka, if_neg (by omega)]
def CmRel (w2 : World) (x y : List Int) (z : Int) (i : Value) (wr : World) : Prop :=
  (∃ n, wr = w2.drewN n) ∧ ∃ k : Nat, k ≤ x.length ∧ k ≤ y.length ∧ i = .int .i64 (k : Int) ∧ Hid (z = cmpL (x.drop k) (y.drop k))
set_option maxRecDepth 100000 in
set_option maxHeartbeats 2000000 in
theorem r1compare_any (s t : ByteArray) (w : World) (hs : s.size ≤ 2000000) (ht : t.size ≤ 2000000) :
    Calls Tryz.prog 114 #[.string s, .string t] w fun e w' => e = .returned (.int .i64 (cmpL (runes s) (runes t))) ∧ Below w.heap.size w w' := by
  have hlx : (runes s).length ≤ 2000000 := Nat.le_trans (runes_len s) hs
  have hly : (runes t).length ≤ 2000000 := Nat.le_trans (runes_len t) ht
  obtain ⟨z, hz⟩ : ∃ z, z = cmpL (runes s) (runes t) := ⟨_, rfl⟩
  rw [← hz]
  have HZ := Lib.hid hz
  clear hz
  go_enter Tryz.func114, Tryz.ntmps114
  go_wp2_with fail
  refine (r1runes_any s w hs).mono ?_
  rintro e w1 ⟨v, rfl, hO, hb1⟩
  have HO := Lib.hid hO
  clear hO
  go_wp2_with fail
  refine (r1runes_any t w1 ht).mono ?_
  rintro e w2 ⟨u, rfl, hO2, hb2⟩
  obtain ⟨a, cap, hv, hat⟩ := (HO.out.below hb2).at'
  obtain ⟨a', cap', hu, hat'⟩ := hO2.at'
  subst hv hu
  have HAT := Lib.hid hat
  have HAT' := Lib.hid hat'
  have HB := Lib.hid (below_then hb1 hb2)
  obtain ⟨x, hx⟩ : ∃ x, x = runes s := ⟨_, rfl⟩
  obtain ⟨y, hy⟩ : ∃ y, y = runes t := ⟨_, rfl⟩
  rw [← hx] at HZ HAT hlx ⊢
  rw [← hy] at HZ HAT' hly ⊢
  clear hO2 hat hat' hx hy HO hb1 hb2
  have HS : Hid (CmRel w2 x y z (.int .i64 0) w2) := Lib.hid ⟨⟨0, rfl⟩, 0, Nat.zero_le _, Nat.zero_le _, rfl, by simpa using HZ⟩
  go_wp2_with fail
  go_loopw [7] (fun i wr => CmRel w2 x y z i wr) (fun i _ => x.length - (intOf i).toNat)
  case atStart => exact HS.out
  case round =>
    obtain ⟨⟨n, rfl⟩, k, hk1, hk2, rfl, HT⟩ := hrel
    by_cases h1 : k < x.length
    · by_cases h2 : k < y.length
      · obtain ⟨b1, ha1, hR1⟩ := HAT.out (fun e => by rw [e] at h1; simp at h1)
        obtain ⟨b2, ha2, hR2⟩ := HAT'.out (fun e => by rw [e] at h2; simp at h2)
        subst ha1 ha2
        have q1 := hR1.cells k x[k] (List.getElem?_eq_getElem h1)
        have q2 := hR2.cells k y[k] (List.getElem?_eq_getElem h2)
        have l1 := hR1.lt
        have l2 := hR2.lt
        have hd := cmpL_drop h1 h2
        obtain ⟨p, hp⟩ : ∃ p, x[k] = p := ⟨_, rfl⟩
        obtain ⟨q, hq⟩ : ∃ q, y[k] = q := ⟨_, rfl⟩
        rw [hp, hq] at hd
        rw [hp] at q1
        rw [hq] at q2
        have HD := Lib.hid hd
        clear hd hp hq hR1 hR2
        by_cases h3 : p < q
        · have HE : Hid (z = -1) := Lib.hid (by
            rw [HT.out, HD.out]
            have : cmpI p q = -1 := by unfold cmpI; rw [if_pos h3]
            rw [this]; rfl)
          go_wp2_with fail
          go_quiet (fail)
          go_wp2_with fail
          go_ret
          exact ⟨by rw [HE.out]; rfl, below_drewN' (below_drewN' HB.out _) _⟩
        · by_cases h4 : q < p
          · have HE : Hid (z = 1) := Lib.hid (by
              rw [HT.out, HD.out]
              have : cmpI p q = 1 := by unfold cmpI; rw [if_neg h3, if_pos h4]
              rw [this]; rfl)
            go_wp2_with fail
            go_quiet (fail)
            go_wp2_with fail
            go_quiet (fail)
            go_wp2_with fail
            go_ret
            exact ⟨by rw [HE.out]; rfl, below_drewN' (below_drewN' (below_drewN' HB.out _) _) _⟩
          · have HE : Hid (z = cmpL (x.drop (k + 1)) (y.drop (k + 1))) := Lib.hid (by
              rw [HT.out, HD.out]
              have : cmpI p q = 0 := by unfold cmpI; rw [if_neg h3, if_neg h4]
              rw [this]; rfl)
            go_wp2_with fail
            go_quiet (fail)
            go_wp2_with fail
            go_quiet (fail)
            go_wp2_with fail
            exact ⟨⟨⟨_, rfl⟩, k + 1, by omega, by omega, by go_num, HE⟩, by simp [intOf]; omega⟩
      · have HE : Hid (z = 1) := Lib.hid (by rw [HT.out, cmpL_long h1 h2])
        go_wp2_with fail
        go_ret
        exact ⟨by rw [HE.out]; rfl, below_drewN' HB.out _⟩
    · by_cases h2 : k < y.length
      · have HE : Hid (z = -1) := Lib.hid (by rw [HT.out, cmpL_short h1 hk1 h2])
        go_wp2_with fail
        go_ret
        exact ⟨by rw [HE.out]; rfl, below_drewN' HB.out _⟩
      · have HE : Hid (z = 0) := Lib.hid (by rw [HT.out, cmpL_both (by omega) (by omega)])
        go_wp2_with fail
        go_ret
        exact ⟨by rw [HE.out]; rfl, below_drewN' HB.out _⟩
end Go.Proofs.YtkbmipmegljidaaGreat
namespace Go.Proofs.YtkbmipmegljidaaGreat
open Go.RowKit Go.Maps Go.Lib

open Classical in
theorem rightPs_long {ps : List Pr} (h : 16 < ps.length) : rightPs ps = false := decide_eq_false fun e => by omega
set_option maxRecDepth 100000 in
set_option maxHeartbeats 4000000 in
theorem r3right_any (a : Option Addr) (cap : Nat) (ps : List Pr) (w : World) (h : PsV w a ps) (hl : ps.length ≤ 100000) :
    Calls Tryz.prog 84 #[.slice a ps.length cap] w fun e w' => e = .returned (.bool (rightPs ps)) ∧ Below w.heap.size w w' := by
  by_cases h16 : 16 < ps.length
  · have HE := Lib.hid (rightPs_long h16)
    go_enter Tryz.func84, Tryz.ntmps84
    go_wp2_with fail
    go_ret
    exact ⟨by rw [HE.out]; rfl, Below.refl _ _⟩
  have HH := Lib.hid h
  clear h
  go_enter Tryz.func84, Tryz.ntmps84
  go_wp2_with fail
  go_loopw [3] (fun i wr => ∃ j : Nat, j ≤ ps.length ∧ i = .int .i64 j ∧ Hid (∀ i', i' < j → okAt ps i') ∧ Below w.heap.size w wr) (fun i _ => ps.length - (intOf i).toNat)
  case atStart => exact ⟨0, Nat.zero_le _, rfl, Lib.hid (fun _ h => absurd h (Nat.not_lt_zero _)), Below.refl _ _⟩
  case round =>
    obtain ⟨j, hj, rfl, HN, hbel⟩ := hrel
    by_cases hlt : j < ps.length
    · obtain ⟨p, hp⟩ : ∃ p, ps[j]? = some p := ⟨_, List.getElem?_eq_getElem hlt⟩
      obtain ⟨b, off, rfl, hat⟩ := (HH.out.below hbel) (fun e => by rw [e] at hlt; simp at hlt)
      obtain ⟨q0, q1, q2, q3⟩ := hat.cells j p hp
      have hok := hat.ok p (List.mem_of_getElem? hp)
      have hlb := hat.lt
      have HP := Lib.hid hp
      have HS := Lib.hid hok.key
      have HV := Lib.hid hok.v
      have HAT := Lib.hid hat
      clear hp hok hat
      cases hbk : badS p.key
      · have HB := Lib.hid hbk
        clear hbk
        go_wp2_with fail
        refine (r1right_any p.key _ HS.out).mono ?_
        rintro e w1 ⟨rfl, hb1⟩
        rw [HB.out]
        have hat1 := HAT.out.of_block (hb1.block b hlb)
        clear q0 q1 q2 q3
        obtain ⟨q0, q1, q2, q3⟩ := hat1.cells j p HP.out
        have hlb1 := hat1.lt
        clear hat1
        go_wp2_with fail
        refine (r2right_any p.v _ HV.out).mono ?_
        rintro e w2 ⟨rfl, hb2⟩
        have hb12 := below_then hb1 hb2
        have hat2 := HAT.out.of_block (hb12.block b hlb)
        clear q0 q1 q2 q3 hlb1
        obtain ⟨q0, q1, q2, q3⟩ := hat2.cells j p HP.out
        have hlb2 := hat2.lt
        have HA2 := Lib.hid hat2
        have hbw := below_then hbel hb12
        clear hat2 hb1 hb2
        cases hvr : p.v.right
        · have HF := Lib.hid (rightPs_no hlt (fun ho => by have := (ho p HP.out).2.1; rw [hvr] at this; cases this))
          clear hvr
          go_wp2_with fail
          go_ret
          exact ⟨by rw [HF.out]; rfl, hbw⟩
        · have HVR := Lib.hid hvr
          clear hvr
          rcases Nat.eq_zero_or_pos j with hj0 | hj0
          · subst hj0
            have HO : Hid (okAt ps 0) := Lib.hid (fun p' hp' => by
              have e := HP.out.symm.trans hp'
              injection e with e
              subst e
              exact ⟨HB.out, HVR.out, fun q h0 => absurd h0 (Nat.lt_irrefl _)⟩)
            clear q0 q1 q2 q3
            go_wp2_with fail
            refine wp_region_held_drew (S := (fun w' => Below w2.heap.size w2 w')) (by kernel_rfl) ((Below.refl _ _).drew) (fun hHeld => ?_)
            refine wpAnyH_take (i := 0) (oi := ⟨some 29, _, _, _, _, _⟩) (v := ?va0) rfl (by kernel_rfl) (by kernel_rfl) (by kernel_rfl) (fun _ _ _ h => h) (Or.inl ⟨by rfl, ?ya0⟩) hHeld ?ra0
            case ya0 => (intro wq hSw; (try dsimp only at hSw); go_simp; first | done | with_reducible rfl)
            simp only [Act.put, List.setIfInBounds_toArray, List.set_cons_zero, List.set_cons_succ]
            refine wpAnyH_take (i := 1) (oi := ⟨some 30, _, _, _, _, _⟩) (v := ?va1) rfl (by kernel_rfl) (by kernel_rfl) (by kernel_rfl) (fun _ _ _ h => h) (Or.inl ⟨by rfl, ?ya1⟩) hHeld ?ra1
            case ya1 => (intro wq hSw; (try dsimp only at hSw); go_simp; first | done | with_reducible rfl)
            simp only [Act.put, List.setIfInBounds_toArray, List.set_cons_zero, List.set_cons_succ]
            refine wpAnyH_take (i := 2) (oi := ⟨some 31, _, _, _, _, _⟩) (v := ?va2) rfl (by kernel_rfl) (by kernel_rfl) (by kernel_rfl) (fun _ _ _ h => h) (Or.inl ⟨by rfl, ?ya2⟩) hHeld ?ra2
            case ya2 => (intro wq hSw; (try dsimp only at hSw); go_simp; first | done | with_reducible rfl)
            simp only [Act.put, List.setIfInBounds_toArray, List.set_cons_zero, List.set_cons_succ]
            refine wpAnyH_take (i := 3) (oi := ⟨some 32, _, _, _, _, _⟩) (v := undef) rfl (by kernel_rfl) (by kernel_rfl) (by kernel_rfl) (fun _ _ _ h => h) (Or.inr ⟨by rfl, rfl⟩) hHeld ?_
            simp only [Act.put, List.setIfInBounds_toArray, List.set_cons_zero, List.set_cons_succ]
            refine wpAnyH_take (i := 4) (oi := ⟨some 33, _, _, _, _, _⟩) (v := undef) rfl (by kernel_rfl) (by kernel_rfl) (by kernel_rfl) (fun _ _ _ h => h) (Or.inr ⟨by rfl, rfl⟩) hHeld ?_
            simp only [Act.put, List.setIfInBounds_toArray, List.set_cons_zero, List.set_cons_succ]
            refine wpAnyH_take (i := 5) (oi := ⟨some 34, _, _, _, _, _⟩) (v := undef) rfl (by kernel_rfl) (by kernel_rfl) (by kernel_rfl) (fun _ _ _ h => h) (Or.inr ⟨by rfl, rfl⟩) hHeld ?_
            simp only [Act.put, List.setIfInBounds_toArray, List.set_cons_zero, List.set_cons_succ]
            refine wpAnyH_take (i := 6) (oi := ⟨some 35, _, _, _, _, _⟩) (v := undef) rfl (by kernel_rfl) (by kernel_rfl) (by kernel_rfl) (fun _ _ _ h => h) (Or.inr ⟨by rfl, rfl⟩) hHeld ?_
            simp only [Act.put, List.setIfInBounds_toArray, List.set_cons_zero, List.set_cons_succ]
            refine wpAnyH_take (i := 7) (oi := ⟨some 36, _, _, _, _, _⟩) (v := undef) rfl (by kernel_rfl) (by kernel_rfl) (by kernel_rfl) (fun _ _ _ h => h) (Or.inr ⟨by rfl, rfl⟩) hHeld ?_
            simp only [Act.put, List.setIfInBounds_toArray, List.set_cons_zero, List.set_cons_succ]
            refine wpAnyH_take (i := 8) (oi := ⟨some 37, _, _, _, _, _⟩) (v := undef) rfl (by kernel_rfl) (by kernel_rfl) (by kernel_rfl) (fun _ _ _ h => h) (Or.inr ⟨by rfl, rfl⟩) hHeld ?_
            simp only [Act.put, List.setIfInBounds_toArray, List.set_cons_zero, List.set_cons_succ]
            refine wpAnyH_take (i := 9) (oi := ⟨some 38, _, _, _, _, _⟩) (v := undef) rfl (by kernel_rfl) (by kernel_rfl) (by kernel_rfl) (fun _ _ _ h => h) (Or.inr ⟨by rfl, rfl⟩) hHeld ?_
            simp only [Act.put, List.setIfInBounds_toArray, List.set_cons_zero, List.set_cons_succ]
            refine wpAnyH_take (i := 10) (oi := ⟨some 39, _, _, _, _, _⟩) (v := undef) rfl (by kernel_rfl) (by kernel_rfl) (by kernel_rfl) (fun _ _ _ h => h) (Or.inr ⟨by rfl, rfl⟩) hHeld ?_
            simp only [Act.put, List.setIfInBounds_toArray, List.set_cons_zero, List.set_cons_succ]
            refine wpAnyH_take (i := 11) (oi := ⟨some 40, _, _, _, _, _⟩) (v := undef) rfl (by kernel_rfl) (by kernel_rfl) (by kernel_rfl) (fun _ _ _ h => h) (Or.inr ⟨by rfl, rfl⟩) hHeld ?_
            simp only [Act.put, List.setIfInBounds_toArray, List.set_cons_zero, List.set_cons_succ]
            refine wpAnyH_take (i := 12) (oi := ⟨some 41, _, _, _, _, _⟩) (v := undef) rfl (by kernel_rfl) (by kernel_rfl) (by kernel_rfl) (fun _ _ _ h => h) (Or.inr ⟨by rfl, rfl⟩) hHeld ?_
            simp only [Act.put, List.setIfInBounds_toArray, List.set_cons_zero, List.set_cons_succ]
            refine wpAnyH_take (i := 13) (oi := ⟨some 42, _, _, _, _, _⟩) (v := undef) rfl (by kernel_rfl) (by kernel_rfl) (by kernel_rfl) (fun _ _ _ h => h) (Or.inr ⟨by rfl, rfl⟩) hHeld ?_
            simp only [Act.put, List.setIfInBounds_toArray, List.set_cons_zero, List.set_cons_succ]
            refine wpAnyH_take (i := 14) (oi := ⟨some 43, _, _, _, _, _⟩) (v := undef) rfl (by kernel_rfl) (by kernel_rfl) (by kernel_rfl) (fun _ _ _ h => h) (Or.inr ⟨by rfl, rfl⟩) hHeld ?_
            simp only [Act.put, List.setIfInBounds_toArray, List.set_cons_zero, List.set_cons_succ]
            refine wpAnyH_take (i := 15) (oi := ⟨some 44, _, _, _, _, _⟩) (v := undef) rfl (by kernel_rfl) (by kernel_rfl) (by kernel_rfl) (fun _ _ _ h => h) (Or.inr ⟨by rfl, rfl⟩) hHeld ?_
            simp only [Act.put, List.setIfInBounds_toArray, List.set_cons_zero, List.set_cons_succ]
            refine wpAnyH_take (i := 16) (oi := ⟨some 45, _, _, _, _, _⟩) (v := ?va16) rfl (by kernel_rfl) (by kernel_rfl) (by kernel_rfl) (fun _ _ _ h => h) (Or.inl ⟨by rfl, ?ya16⟩) hHeld ?ra16
            case ya16 => (intro wq hSw; (try dsimp only at hSw); go_simp; first | done | with_reducible rfl)
            simp only [Act.put, List.setIfInBounds_toArray, List.set_cons_zero, List.set_cons_succ]
            refine wpAnyH_done (by kernel_rfl) ?_ _
            go_wp2_with fail
            exact ⟨⟨1, by omega, by go_num, Lib.hid (fun i' hi' => by
              obtain rfl : i' = 0 := by omega
              exact HO.out), hbw.drew⟩, by simp [intOf]; omega⟩
          · obtain ⟨j', rfl⟩ : ∃ j', j = j' + 1 := ⟨j - 1, by omega⟩
            obtain ⟨q, hq⟩ : ∃ q, ps[j']? = some q := ⟨_, List.getElem?_eq_getElem (by omega)⟩
            obtain ⟨p0, p1, p2, p3⟩ := HA2.out.cells j' q hq
            have HQ := Lib.hid hq
            have HQS := Lib.hid (HA2.out.ok q (List.mem_of_getElem? hq)).key
            have ks : ∀ w', Below w2.heap.size w2 w' → (fun w' => Below w2.heap.size w2 w' ∧ w'.cell? ⟨b, off + (j' + 1) * 4, none⟩ = some (.string p.key) ∧ w'.cell? ⟨b, off + j' * 4, none⟩ = some (.string q.key)) w' := fun w' hb => ⟨hb, below_cell hb _ hlb2 q0, below_cell hb _ hlb2 p0⟩
            have KS := Lib.hid ks
            clear ks hq q0 q1 q2 q3 p0 p1 p2 p3
            have hjl : j' < ps.length := by omega
            have hja : (0 : Int) ≤ (j' : Int) + 1 := by omega
            have hjb : (j' : Int) + 1 < (ps.length : Int) := by omega
            have hwj : IntKind.i64.wrap (j' : Int) = j' := by simp [IntKind.wrap, IntKind.bits, IntKind.signed]; omega
            go_wp2_with fail
            refine wp_region_held_drew (S := (fun w' => Below w2.heap.size w2 w' ∧ w'.cell? ⟨b, off + (j' + 1) * 4, none⟩ = some (.string p.key) ∧ w'.cell? ⟨b, off + j' * 4, none⟩ = some (.string q.key))) (by kernel_rfl) (KS.out _ (Below.refl _ _).drew) (fun hHeld => ?_)
            refine wpAnyH_take (i := 0) (oi := ⟨some 29, _, _, _, _, _⟩) (v := ?vb0) rfl (by kernel_rfl) (by kernel_rfl) (by kernel_rfl) (fun _ _ _ h => h) (Or.inl ⟨by rfl, ?yb0⟩) hHeld ?rb0
            case yb0 => (intro wq hSw; (try dsimp only at hSw); go_simp; first | done | with_reducible rfl)
            simp only [Act.put, List.setIfInBounds_toArray, List.set_cons_zero, List.set_cons_succ]
            refine wpAnyH_take (i := 1) (oi := ⟨some 30, _, _, _, _, _⟩) (v := ?vb1) rfl (by kernel_rfl) (by kernel_rfl) (by kernel_rfl) (fun _ _ _ h => h) (Or.inl ⟨by rfl, ?yb1⟩) hHeld ?rb1
            case yb1 => (intro wq hSw; (try dsimp only at hSw); go_simp; first | done | with_reducible rfl)
            simp only [Act.put, List.setIfInBounds_toArray, List.set_cons_zero, List.set_cons_succ]
            refine wpAnyH_take (i := 2) (oi := ⟨some 31, _, _, _, _, _⟩) (v := ?vb2) rfl (by kernel_rfl) (by kernel_rfl) (by kernel_rfl) (fun _ _ _ h => h) (Or.inl ⟨by rfl, ?yb2⟩) hHeld ?rb2
            case yb2 => (intro wq hSw; (try dsimp only at hSw); go_simp; first | done | with_reducible rfl)
            simp only [Act.put, List.setIfInBounds_toArray, List.set_cons_zero, List.set_cons_succ]
            refine wpAnyH_take (i := 3) (oi := ⟨some 32, _, _, _, _, _⟩) (v := ?vb3) rfl (by kernel_rfl) (by kernel_rfl) (by kernel_rfl) (fun _ _ _ h => h) (Or.inl ⟨by rfl, ?yb3⟩) hHeld ?rb3
            case yb3 => (intro wq hSw; (try dsimp only at hSw); go_simp; first | done | with_reducible rfl)
            simp only [Act.put, List.setIfInBounds_toArray, List.set_cons_zero, List.set_cons_succ]
            refine wpAnyH_take (i := 4) (oi := ⟨some 33, _, _, _, _, _⟩) (v := ?vb4) rfl (by kernel_rfl) (by kernel_rfl) (by kernel_rfl) (fun _ _ _ h => h) (Or.inl ⟨by rfl, ?yb4⟩) hHeld ?rb4
            case yb4 => (intro wq hSw; (try dsimp only at hSw); go_simp; first | done | with_reducible rfl)
            simp only [Act.put, List.setIfInBounds_toArray, List.set_cons_zero, List.set_cons_succ]
            refine wpAnyH_take (i := 5) (oi := ⟨some 34, _, _, _, _, _⟩) (v := ?vb5) rfl (by kernel_rfl) (by kernel_rfl) (by kernel_rfl) (fun _ _ _ h => h) (Or.inl ⟨by rfl, ?yb5⟩) hHeld ?rb5
            case yb5 => (intro wq hSw; (try dsimp only at hSw); go_simp; first | done | with_reducible rfl)
            simp only [Act.put, List.setIfInBounds_toArray, List.set_cons_zero, List.set_cons_succ]
            refine wpAnyH_take (i := 6) (oi := ⟨some 35, _, _, _, _, _⟩) (v := ?vb6) rfl (by kernel_rfl) (by kernel_rfl) (by kernel_rfl) (fun _ _ _ h => h) (Or.inl ⟨by rfl, ?yb6⟩) hHeld ?rb6
            case yb6 => (intro wq hSw; (try dsimp only at hSw); go_simp; first | done | with_reducible rfl)
            simp only [Act.put, List.setIfInBounds_toArray, List.set_cons_zero, List.set_cons_succ]
            refine wpAnyH_take (i := 7) (oi := ⟨some 36, _, _, _, _, _⟩) (v := ?vb7) rfl (by kernel_rfl) (by kernel_rfl) (by kernel_rfl) (fun _ _ _ h => h) (Or.inl ⟨by rfl, ?yb7⟩) hHeld ?rb7
            case yb7 => (intro wq hSw; (try dsimp only at hSw); go_simp; first | done | with_reducible rfl)
            simp only [Act.put, List.setIfInBounds_toArray, List.set_cons_zero, List.set_cons_succ]
            refine wpAnyH_take (i := 8) (oi := ⟨some 37, _, _, _, _, _⟩) (v := ?vb8) rfl (by kernel_rfl) (by kernel_rfl) (by kernel_rfl) (fun _ _ _ h => h) (Or.inl ⟨by rfl, ?yb8⟩) hHeld ?rb8
            case yb8 => (intro wq hSw; (try dsimp only at hSw); go_simp; first | done | with_reducible rfl)
            simp only [Act.put, List.setIfInBounds_toArray, List.set_cons_zero, List.set_cons_succ]
            refine wpAnyH_take (i := 9) (oi := ⟨some 38, _, _, _, _, _⟩) (v := ?vb9) rfl (by kernel_rfl) (by kernel_rfl) (by kernel_rfl) (fun _ _ _ h => h) (Or.inl ⟨by rfl, ?yb9⟩) hHeld ?rb9
            case yb9 => (intro wq hSw; (try dsimp only at hSw); go_simp; first | done | with_reducible rfl)
            simp only [Act.put, List.setIfInBounds_toArray, List.set_cons_zero, List.set_cons_succ]
            refine wpAnyH_take (i := 10) (oi := ⟨some 39, _, _, _, _, _⟩) (v := ?vb10) rfl (by kernel_rfl) (by kernel_rfl) (by kernel_rfl) (fun _ _ _ h => h) (Or.inl ⟨by rfl, ?yb10⟩) hHeld ?rb10
            case yb10 => (intro wq hSw; (try dsimp only at hSw); go_simp; first | done | with_reducible rfl)
            simp only [Act.put, List.setIfInBounds_toArray, List.set_cons_zero, List.set_cons_succ]
            refine wpAnyH_take (i := 11) (oi := ⟨some 40, _, _, _, _, _⟩) (v := ?vb11) rfl (by kernel_rfl) (by kernel_rfl) (by kernel_rfl) (fun _ _ _ h => h) (Or.inl ⟨by rfl, ?yb11⟩) hHeld ?rb11
            case yb11 => (intro wq hSw; (try dsimp only at hSw); go_simp; first | done | with_reducible rfl)
            simp only [Act.put, List.setIfInBounds_toArray, List.set_cons_zero, List.set_cons_succ]
            refine wpAnyH_take (i := 12) (oi := ⟨some 41, _, _, _, _, _⟩) (v := ?vb12) rfl (by kernel_rfl) (by kernel_rfl) (by kernel_rfl) (fun _ _ _ h => h) (Or.inl ⟨by rfl, ?yb12⟩) hHeld ?rb12
            case yb12 => (intro wq hSw; (try dsimp only at hSw); go_simp; first | done | with_reducible rfl)
            simp only [Act.put, List.setIfInBounds_toArray, List.set_cons_zero, List.set_cons_succ]
            refine wpAnyH_take (i := 13) (oi := ⟨some 42, _, _, _, _, _⟩) (v := ?vb13) rfl (by kernel_rfl) (by kernel_rfl) (by kernel_rfl) (fun _ _ _ h => h) (Or.inl ⟨by rfl, ?yb13⟩) hHeld ?rb13
            case yb13 => (intro wq hSw; (try dsimp only at hSw); go_simp; first | done | with_reducible rfl)
            simp only [Act.put, List.setIfInBounds_toArray, List.set_cons_zero, List.set_cons_succ]
            refine wpAnyH_ready (rs := [14]) (by kernel_rfl) (by simp) ?_
            refine AllReadyH.cons (o := ⟨some 43, _, _, _, _, _⟩) rfl (fun K hK => ?_) AllReadyH.nil
            go_simp
            refine (r1compare_any q.key p.key _ HQS.out HS.out).mono ?_
            rintro e we ⟨rfl, hbe⟩
            obtain ⟨z, hz⟩ : ∃ z, cmpL (runes q.key) (runes p.key) = z := ⟨_, rfl⟩
            have HZ := Lib.hid hz
            rw [hz]
            clear hz
            go_wp2_with fail
            refine hK.out _ _ ?sb14 (fun hHeld => ?_)
            case sb14 => (exact KS.out _ (below_then (Below.refl _ _).drew hbe))
            clear hK K
            try simp only [Act.put, List.setIfInBounds_toArray, List.set_cons_zero, List.set_cons_succ]
            refine wpAnyH_take (i := 15) (oi := ⟨some 44, _, _, _, _, _⟩) (v := ?vb15) rfl (by kernel_rfl) (by kernel_rfl) (by kernel_rfl) (fun _ _ _ h => h) (Or.inl ⟨by rfl, ?yb15⟩) hHeld ?rb15
            case yb15 => (intro wq hSw; (try dsimp only at hSw); go_simp; first | done | with_reducible rfl)
            simp only [Act.put, List.setIfInBounds_toArray, List.set_cons_zero, List.set_cons_succ]
            refine wpAnyH_take (i := 16) (oi := ⟨some 45, _, _, _, _, _⟩) (v := ?vb16) rfl (by kernel_rfl) (by kernel_rfl) (by kernel_rfl) (fun _ _ _ h => h) (Or.inl ⟨by rfl, ?yb16⟩) hHeld ?rb16
            case yb16 => (intro wq hSw; (try dsimp only at hSw); go_simp; first | done | with_reducible rfl)
            simp only [Act.put, List.setIfInBounds_toArray, List.set_cons_zero, List.set_cons_succ]
            refine wpAnyH_done (by kernel_rfl) ?_ _
            clear hwj hja hjb hjl
            by_cases hz : 0 ≤ z
            · have HF := Lib.hid (rightPs_no hlt (fun ho => by have := (ho p HP.out).2.2 q (by omega) HQ.out; rw [HZ.out] at this; omega))
              go_wp2_with fail
              go_ret
              exact ⟨by rw [HF.out]; rfl, below_then hbw (below_then (Below.refl _ _).drew hbe)⟩
            · have HO : Hid (okAt ps (j' + 1)) := Lib.hid (fun p' hp' => by
                have e := HP.out.symm.trans hp'
                injection e with e
                subst e
                exact ⟨HB.out, HVR.out, fun q' _ hq' => by
                  have e := HQ.out.symm.trans hq'
                  injection e with e
                  subst e
                  rw [HZ.out]; omega⟩)
              go_wp2_with fail
              exact ⟨⟨j' + 1 + 1, by omega, by go_num, Lib.hid (fun i' hi' => by
                by_cases hi : i' = j' + 1
                · subst hi; exact HO.out
                · exact HN.out i' (by omega)), below_then hbw (below_then (Below.refl _ _).drew hbe)⟩, by simp [intOf]; omega⟩
      · have HF := Lib.hid (rightPs_no hlt (fun ho => by have := (ho p HP.out).1; rw [hbk] at this; cases this))
        have HB := Lib.hid hbk
        clear hbk
        go_wp2_with fail
        refine (r1right_any p.key _ HS.out).mono ?_
        rintro e w1 ⟨rfl, hb1⟩
        rw [HB.out]
        go_wp2_with fail
        go_ret
        exact ⟨by rw [HF.out]; rfl, below_then hbel hb1⟩
    · have HF := Lib.hid (rightPs_end (fun i hi => HN.out i (by omega)))
      have h16' : decide (ps.length ≤ 16) = true := decide_eq_true (by omega)
      go_wp2_with fail
      go_ret
      exact ⟨by rw [HF.out, h16']; rfl, hbel⟩
end Go.Proofs.YtkbmipmegljidaaGreat
namespace Go.Proofs.YtkbmipmegljidaaGreat
open Go.RowKit Go.Maps Go.Lib

theorem any_take {l : List Int} {k : Nat} {x : Int} (h : l[k]? = some x) (ht : (l.take k).any idB = false) (hx : idB x = false) : (l.take (k + 1)).any idB = false := by
  rw [List.take_add_one, h, List.any_append, ht]
  simpa using hx
set_option maxRecDepth 100000 in
set_option maxHeartbeats 2000000 in
theorem r16check_any (label : ByteArray) (pa ia : Option Addr) (pc ic : Nat) (ps : List Pr) (ids : List Int) (w : World) (hl : label.size ≤ 2000000) (hp : PsV w pa ps) (hi : IsV w ia ids) (lp : ps.length ≤ 100000) (li : ids.length ≤ 100000) :
    Calls Tryz.prog 43 #[.string label, .slice pa ps.length pc, .slice ia ids.length ic] w fun e w' => e = .returned (.int .i64 (checkR label ps ids)) ∧ Below w.heap.size w w' := by
  have HP := Lib.hid hp
  have HI := Lib.hid hi
  clear hp hi
  go_enter Tryz.func43, Tryz.ntmps43
  go_wp2_with fail
  go_loop [7] (fun i => ∃ k : Nat, k ≤ ids.length ∧ i = .int .i64 k ∧ Hid ((ids.take k).any idB = false)) (fun i => ids.length - (intOf i).toNat)
  case atStart => exact ⟨0, by omega, rfl, Lib.hid rfl⟩
  case round =>
    obtain ⟨k, hk, rfl, HT⟩ := hrel
    by_cases hlt : k < ids.length
    · obtain ⟨x, hx⟩ : ∃ x, ids[k]? = some x := ⟨_, List.getElem?_eq_getElem hlt⟩
      obtain ⟨b, off, rfl, hat⟩ := HI.out (fun e => by rw [e] at hlt; simp at hlt)
      have q0 := hat.cells k x hx
      have hlb := hat.lt
      have HX := Lib.hid hx
      clear hat hx
      cases hb : idB x
      · have HB := Lib.hid (any_take HX.out HT.out hb)
        obtain ⟨h1, h2⟩ : ¬ x < 0 ∧ ¬ 1099511627776 ≤ x := by unfold idB at hb; simp at hb; omega
        clear hb
        go_wp2_with fail
        go_round
        case rel => exact ⟨k + 1, by omega, by go_num, HB⟩
        case measure => simp [intOf]; omega
      · have HC : Hid (checkR label ps ids = 2) := Lib.hid (by unfold checkR; rw [if_pos (List.any_eq_true.2 ⟨x, List.mem_of_getElem? HX.out, hb⟩)])
        unfold idB at hb
        simp at hb
        by_cases h1 : x < 0
        · clear hb
          go_wp2_with fail
          go_ret
          exact ⟨by rw [HC.out]; rfl, Below.refl _ _⟩
        · have h2 : 1099511627776 ≤ x := by omega
          clear hb
          go_wp2_with fail
          go_ret
          exact ⟨by rw [HC.out]; rfl, Below.refl _ _⟩
    · obtain rfl : k = ids.length := by omega
      have HA : Hid (ids.any idB = false) := Lib.hid (by have := HT.out; rwa [List.take_length] at this)
      go_wp2_with fail
      refine (r1right_any label _ hl).mono ?_
      rintro e w1 ⟨rfl, hb1⟩
      cases hb : badS label
      · go_wp2_with fail
        refine (r3right_any pa pc ps _ (HP.out.below hb1) lp).mono ?_
        rintro e w2 ⟨rfl, hb2⟩
        have HB := Lib.hid hb
        clear hb
        cases hr : rightPs ps
        · have HC : Hid (checkR label ps ids = 10) := Lib.hid (by unfold checkR; rw [HA.out, HB.out, hr]; rfl)
          clear hr
          go_wp2_with fail
          go_ret
          exact ⟨by rw [HC.out]; rfl, below_then hb1 hb2⟩
        · have HC : Hid (checkR label ps ids = 0) := Lib.hid (by unfold checkR; rw [HA.out, HB.out, hr]; rfl)
          clear hr
          go_wp2_with fail
          go_ret
          exact ⟨by rw [HC.out]; rfl, below_then hb1 hb2⟩
      · have HC : Hid (checkR label ps ids = 30) := Lib.hid (by unfold checkR; rw [HA.out, hb]; rfl)
        clear hb
        go_wp2_with fail
        go_ret
        exact ⟨by rw [HC.out]; rfl, hb1⟩
end Go.Proofs.YtkbmipmegljidaaGreat
namespace Go.Proofs.YtkbmipmegljidaaGreat
open Go.RowKit Go.Maps

section
variable {α : Type} (key : α → Int)
/-- one more, by its key -/
def insB (x : α) : List α → List α
  | [] => [x]
  | y :: t => if key y < key x then y :: insB x t else x :: y :: t
def findB (l : List α) (n : Int) : Option α := l.find? (fun y => key y == n)
def SortB (l : List α) : Prop := l.Pairwise (fun a b => key a < key b)
variable {key}
theorem mem_insB {x : α} : ∀ {l : List α} {y : α}, y ∈ insB key x l ↔ y = x ∨ y ∈ l
  | [], y => by simp [insB]
  | z :: t, y => by
    unfold insB
    split
    · rw [List.mem_cons, mem_insB, List.mem_cons]
      constructor
      · rintro (h | h | h)
        · exact .inr (.inl h)
        · exact .inl h
        · exact .inr (.inr h)
      · rintro (h | h | h)
        · exact .inr (.inl h)
        · exact .inl h
        · exact .inr (.inr h)
    · rw [List.mem_cons]
theorem len_insB (x : α) : ∀ l : List α, (insB key x l).length = l.length + 1
  | [] => rfl
  | z :: t => by
    unfold insB
    split
    · simp [len_insB x t]
    · rfl
theorem findB_none {l : List α} {n : Int} : findB key l n = none ↔ ∀ y ∈ l, key y ≠ n := by
  unfold findB
  rw [List.find?_eq_none]
  constructor
  · intro h y hy e
    exact h y hy (by simp [e])
  · intro h y hy
    simp [h y hy]
theorem findB_some {l : List α} {n : Int} {x : α} (h : findB key l n = some x) : x ∈ l ∧ key x = n := by
  unfold findB at h
  exact ⟨List.mem_of_find?_eq_some h, by have := List.find?_some h; simpa using this⟩
theorem sort_insB {x : α} : ∀ {l : List α}, SortB key l → (∀ y ∈ l, key y ≠ key x) → SortB key (insB key x l)
  | [], _, _ => List.pairwise_singleton _ _
  | z :: t, h, hn => by
    obtain ⟨h1, h2⟩ := List.pairwise_cons.1 h
    have hz := hn z (List.mem_cons.2 (.inl rfl))
    unfold insB
    split
    · rename_i hlt
      refine List.pairwise_cons.2 ⟨fun y hy => ?_, sort_insB h2 (fun y hy => hn y (List.mem_cons.2 (.inr hy)))⟩
      rcases mem_insB.1 hy with rfl | hy
      · exact hlt
      · exact h1 y hy
    · rename_i hlt
      refine List.pairwise_cons.2 ⟨fun y hy => ?_, h⟩
      rcases List.mem_cons.1 hy with rfl | hy
      · omega
      · have := h1 y hy; omega
theorem find_insB {x : α} {n : Int} : ∀ {l : List α}, (∀ y ∈ l, key y ≠ key x) → findB key (insB key x l) n = if key x = n then some x else findB key l n
  | [], _ => by
    unfold findB insB
    by_cases e : key x = n
    · simp [e]
    · simp [e]
  | z :: t, hn => by
    have ih := find_insB (x := x) (n := n) (l := t) (fun y hy => hn y (List.mem_cons.2 (.inr hy)))
    have hz := hn z (List.mem_cons.2 (.inl rfl))
    unfold insB
    split
    · unfold findB at *
      rw [List.find?_cons, List.find?_cons]
      by_cases e : key z = n
      · have : ¬ key x = n := fun e2 => hz (by omega)
        simp [e, this]
      · have : (key z == n) = false := by simpa using e
        rw [this]
        exact ih
    · unfold findB
      rw [List.find?_cons]
      by_cases e : key x = n
      · simp [e]
      · have : (key x == n) = false := by simpa using e
        rw [this, if_neg e]
theorem sortB_nodup {l : List α} (h : SortB key l) : (l.map key).Pairwise (· < ·) := List.pairwise_map.2 h
theorem sortB_inj {l : List α} (h : SortB key l) {x y : α} (hx : x ∈ l) (hy : y ∈ l) (e : key x = key y) : x = y := by
  induction l with
  | nil => cases hx
  | cons z t ih =>
    obtain ⟨h1, h2⟩ := List.pairwise_cons.1 h
    rcases List.mem_cons.1 hx with rfl | hx'
    · rcases List.mem_cons.1 hy with rfl | hy'
      · rfl
      · have := h1 y hy'; omega
    · rcases List.mem_cons.1 hy with rfl | hy'
      · have := h1 x hx'; omega
      · exact ih h2 hx' hy'
theorem findB_mem {l : List α} (h : SortB key l) {x : α} (hx : x ∈ l) : findB key l (key x) = some x := by
  cases hf : findB key l (key x) with
  | none => exact absurd rfl (findB_none.1 hf x hx)
  | some y =>
    obtain ⟨h1, h2⟩ := findB_some hf
    rw [sortB_inj h h1 hx h2]
end
/-- a vertex, an edge -/
structure Vt where
  id : Int
  label : ByteArray
  ps : List Pr
structure Eg where
  id : Int
  label : ByteArray
  fr : Int
  to : Int
  ps : List Pr
/-- a vertex, an edge is laid -/
noncomputable def addV (V : List Vt) (v : Vt) : Int × List Vt :=
  if checkR v.label v.ps [v.id] = 0 then (if (findB Vt.id V v.id).isSome then (31, V) else (0, insB Vt.id v V)) else (checkR v.label v.ps [v.id], V)
noncomputable def addE (V : List Vt) (E : List Eg) (e : Eg) : Int × List Eg :=
  if checkR e.label e.ps [e.id, e.fr, e.to] = 0 then
    (if (findB Eg.id E e.id).isSome then (31, E) else if (findB Vt.id V e.fr).isNone || (findB Vt.id V e.to).isNone then (101, E) else (0, insB Eg.id e E))
  else (checkR e.label e.ps [e.id, e.fr, e.to], E)
end Go.Proofs.YtkbmipmegljidaaGreat
