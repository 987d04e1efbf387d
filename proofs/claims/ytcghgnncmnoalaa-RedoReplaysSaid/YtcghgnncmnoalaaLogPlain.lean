/- What is laid as a log is read as it. Conditions: each lemma's own premises. -/
import Derived.Test.YtcghgnncmnoalaaSrtC
import Derived.Test.YtcghgnncmnoalaaBk7
namespace Go.Proofs.Ytcghgnncmnoalaa
open Go.RowKit Go.Maps

theorem fold_be (n : Nat) : ∀ (k acc : Nat), (beL n k).foldl (fun n b => n * 256 + b.toNat) acc = acc * 256 ^ k + n % 256 ^ k
  | 0, acc => by simp [beL]; omega
  | k + 1, acc => by
    unfold beL
    rw [List.foldl_cons, fold_be n k, Nat.mod_pow_succ, Nat.pow_succ]
    have e : (UInt8.ofNat (n / 256 ^ k)).toNat = n / 256 ^ k % 256 := by simp
    rw [e, Nat.add_mul, Nat.mul_assoc, Nat.mul_comm 256 (256 ^ k), Nat.mul_comm (n / 256 ^ k % 256)]
    omega
theorem num_be {n k : Nat} (h : n < 256 ^ k) : numL (beL n k) = n := by
  unfold numL; rw [fold_be, Nat.mod_eq_of_lt h]; omega
theorem nuN_be {n k : Nat} (h : n < 256 ^ k) (rest : List UInt8) : nuN (beL n k ++ rest) k = some (n, rest) := by
  unfold nuN
  have hl := beL_len n k
  rw [if_pos (by rw [List.length_append, hl]; omega), List.take_append_of_le_length (by omega), List.take_of_length_le (by omega), num_be h, List.drop_append_of_le_length (by omega), List.drop_of_length_le (by omega)]
  rfl
theorem txN_be (s : ByteArray) (rest : List UInt8) : txN (s.data.toList ++ rest) s.size = some (s, rest) := by
  unfold txN
  have hl : s.data.toList.length = s.size := by rw [Array.length_toList]; rfl
  rw [if_pos (by rw [List.length_append, hl]; omega), List.take_append_of_le_length (by omega), List.take_of_length_le (by omega), List.drop_append_of_le_length (by omega), List.drop_of_length_le (by omega)]
  simp
theorem nuN_one (c : Nat) (h : c < 256) (rest : List UInt8) : nuN (UInt8.ofNat c :: rest) 1 = some (c, rest) := by
  have := nuN_be (n := c) (k := 1) (by rw [Nat.pow_one]; exact h) rest
  simp only [beL, Nat.pow_zero, Nat.div_one] at this
  exact this
theorem nuN_has (b : Bool) (rest : List UInt8) : nuN ((if b = true then 1 else 0) :: rest) 1 = some ((if b = true then 1 else 0), rest) := by
  cases b
  · exact nuN_one 0 (by decide) rest
  · exact nuN_one 1 (by decide) rest
theorem odd_bounds {x : Wr} (h : x.odd = false) : (0 ≤ x.k.kind ∧ x.k.kind ≤ 255) ∧ (0 ≤ x.k.a ∧ x.k.a ≤ 1099511627775) ∧ (0 ≤ x.k.b ∧ x.k.b ≤ 1099511627775) ∧ x.k.s.size ≤ 65535 ∧ x.val.size ≤ 65535 := by
  unfold Wr.odd Wr.big inB at h
  simp at h
  omega
theorem tkW_be {x : Wr} (h : x.odd = false) (rest : List UInt8) : tkW (wrB x ++ rest) = some (x, rest) := by
  obtain ⟨h1, h2, h3, h4, h5⟩ := odd_bounds h
  obtain ⟨⟨kd, ka, kb, ks⟩, val, has⟩ := x
  simp only [] at h1 h2 h3 h4 h5
  obtain ⟨n1, rfl⟩ := Int.eq_ofNat_of_zero_le h1.1
  obtain ⟨n2, rfl⟩ := Int.eq_ofNat_of_zero_le h2.1
  obtain ⟨n3, rfl⟩ := Int.eq_ofNat_of_zero_le h3.1
  unfold wrB
  simp only [Int.toNat_natCast, List.cons_append, List.append_assoc]
  unfold tkW
  rw [nuN_one n1 (by omega)]
  unfold tkW1
  simp only []
  rw [nuN_be (by omega)]
  unfold tkW2
  simp only []
  rw [nuN_be (by omega)]
  unfold tkW3
  simp only []
  rw [nuN_be (by omega)]
  unfold tkW4
  simp only []
  rw [txN_be]
  unfold tkW5
  simp only []
  rw [nuN_has]
  unfold tkW6
  simp only []
  rw [if_neg (by split <;> decide), nuN_be (by omega)]
  unfold tkW7
  simp only []
  rw [txN_be]
  cases has <;> rfl
theorem tkWs_be : ∀ (ws : List Wr) (acc : List Wr) (rest : List UInt8), (∀ x ∈ ws, x.odd = false) → tkWs ws.length (ws.flatMap wrB ++ rest) acc = some (acc ++ ws, rest)
  | [], acc, rest, _ => by simp [tkWs]
  | x :: ws, acc, rest, h => by
    rw [List.flatMap_cons, List.append_assoc]
    show (match tkW (wrB x ++ (ws.flatMap wrB ++ rest)) with | none => none | some (x, l) => tkWs ws.length l (acc ++ [x])) = _
    rw [tkW_be (h x (by simp))]
    simp only []
    rw [tkWs_be ws _ rest (fun y hy => h y (by simp [hy]))]
    simp
theorem bad_odd : ∀ (ws : List Wr) (o : Option Ky), badWs ws o = false → ∀ x ∈ ws, x.odd = false
  | [], _, _, x, hx => by simp at hx
  | y :: ws, o, h, x, hx => by
    unfold badWs at h
    simp only [Bool.or_eq_false_iff] at h
    rcases List.mem_cons.1 hx with rfl | hx
    · exact h.1.1
    · exact bad_odd ws _ h.2 x hx
theorem wrong_parts {r : Rc} (h : r.wrong = false) : (∀ x ∈ r.ws, x.odd = false) ∧ r.stamp < 4611686018427387904 ∧ r.ws.length ≤ 65535 ∧ r.stamp ≠ 0 := by
  unfold Rc.wrong at h
  simp only [Bool.or_eq_false_iff, decide_eq_false_iff_not] at h
  exact ⟨bad_odd _ _ h.1, by omega, by omega, by omega⟩
theorem psB_rec {r : Rc} (h : r.wrong = false) : psB 1 (bodyL r.stamp r.ws) = .rc r := by
  obtain ⟨h1, h2, h3, _⟩ := wrong_parts h
  have ht : tkR (bodyL r.stamp r.ws) = some (r, []) := by
    unfold bodyL headB
    rw [List.append_assoc]
    unfold tkR
    rw [nuN_be (by omega)]
    unfold tkR1
    simp only []
    rw [nuN_be (by omega)]
    unfold tkR2
    simp only []
    have := tkWs_be r.ws [] [] h1
    rw [List.append_nil] at this
    rw [this]
    rfl
  unfold psB
  rw [if_pos rfl, ht]
  unfold psR
  simp [h]
theorem psB_mk {n : Nat} (h : n ≤ 2147483647) : psB 2 (fourL n) = .mark n := by
  have ht : nuN (fourL n) 4 = some (n, []) := by
    have := nuN_be (n := n) (k := 4) (by omega) []
    rw [List.append_nil, beL_four] at this
    exact this
  unfold psB
  rw [if_neg (by decide), if_pos rfl, ht]
  unfold psM
  simp; omega
/-! blocks -/
theorem pack_len (k : UInt8) (l : List UInt8) : (packL k l).length = l.length + 10 := by
  unfold packL headL; simp [fourL]
theorem tkN_pack (k : UInt8) (l rest : List UInt8) (h : l.length ≤ 1048576) : tkN (packL k l ++ rest) = l.length := by
  unfold tkN packL headL
  have : (((203 :: k :: (fourL l.length ++ l) ++ fourL (crc (203 :: k :: (fourL l.length ++ l)))) ++ rest).drop 2).take 4 = fourL l.length := by
    simp [fourL]
  rw [this]
  exact num_four (by omega)
theorem tkB_pack (k : UInt8) (l rest : List UInt8) (h : l.length ≤ 1048576) : tkB (packL k l ++ rest) = l := by
  unfold tkB
  rw [tkN_pack k l rest h]
  unfold packL headL
  simp [fourL]
theorem tkE_pack (k : UInt8) (l rest : List UInt8) (h : l.length ≤ 1048576) : tkE (packL k l ++ rest) = 0 := by
  have hn := tkN_pack k l rest h
  have hlen : (packL k l ++ rest).length = l.length + 10 + rest.length := by rw [List.length_append, pack_len]
  have hh : (packL k l ++ rest).take (l.length + 6) = headL k l := by
    unfold packL
    rw [List.append_assoc, List.take_append_of_le_length (by rw [headL_len]; omega), List.take_of_length_le (by rw [headL_len]; omega)]
  have hd : (((packL k l ++ rest).drop (l.length + 6)).take 4) = fourL (crc (headL k l)) := by
    unfold packL
    rw [List.append_assoc, List.drop_append_of_le_length (by rw [headL_len]; omega), List.drop_of_length_le (by rw [headL_len]; omega), List.nil_append, List.take_append_of_le_length (by simp [fourL]), List.take_of_length_le (by simp [fourL])]
  unfold tkE
  rw [if_neg (fun e => by rw [e] at hlen; simp at hlen; omega), if_neg (by unfold packL headL; simp), if_neg (by omega), hn, if_neg (by omega), if_neg (by omega), hh, hd, num_four (crc_lt _), if_neg (by simp)]
theorem get_pack (k : UInt8) (l rest : List UInt8) : (packL k l ++ rest).getD 1 0 = k := by unfold packL headL; simp
theorem tkE_cut (k : UInt8) (l : List UInt8) (h : l.length ≤ 1048576) (j : Nat) (hj : j < l.length + 10) : tkE ((packL k l).take j) ≠ 0 := by
  have hlen : ((packL k l).take j).length = j := by rw [List.length_take, pack_len]; omega
  by_cases h0 : j = 0
  · subst h0; unfold tkE; simp
  · have hg : ((packL k l).take j).getD 0 0 = 203 := by
      obtain ⟨i, rfl⟩ : ∃ i, j = i + 1 := ⟨j - 1, by omega⟩
      unfold packL headL; simp
    unfold tkE
    rw [if_neg (fun e => by rw [e] at hlen; simp at hlen; omega), if_neg (by rw [hg]; simp)]
    by_cases h6 : j < 6
    · rw [if_pos (by omega)]; decide
    · rw [if_neg (by omega)]
      have hn : tkN ((packL k l).take j) = l.length := by
        have e := tkN_pack k l [] h
        rw [List.append_nil] at e
        rw [← e]
        unfold tkN
        congr 1
        rw [List.drop_take, List.take_take, show min 4 (j - 2) = 4 by omega]
      rw [hn, if_neg (by omega), if_pos (by omega)]; decide
/-! logs -/
inductive It where
  | rc (r : Rc)
  | mk (n : Nat)
def itB : It → List UInt8
  | .rc r => packL 1 (bodyL r.stamp r.ws)
  | .mk n => packL 2 (fourL n)
def itS (s : Lg) : It → Lg
  | .rc r => ⟨s.all ++ [r], s.sure, s.last, s.cut, s.pos + (itB (.rc r)).length⟩
  | .mk n => ⟨s.all, s.all, n, s.pos + (itB (.mk n)).length, s.pos + (itB (.mk n)).length⟩
def itOk : Int → List It → Prop
  | _, [] => True
  | last, .rc r :: m => r.wrong = false ∧ (bodyL r.stamp r.ws).length ≤ 1048576 ∧ itOk last m
  | last, .mk n :: m => n ≤ 2147483647 ∧ last < (n : Int) ∧ itOk n m
theorem itB_pos (i : It) : 10 ≤ (itB i).length := by
  cases i <;> (unfold itB; rw [pack_len]; omega)
theorem lg_step_rc {pre rest : List UInt8} {s : Lg} {r : Rc} (hpos : s.pos = pre.length) (h1 : r.wrong = false) (h2 : (bodyL r.stamp r.ws).length ≤ 1048576) : lgStep (pre ++ (itB (.rc r) ++ rest)) s = some (itS s (.rc r)) := by
  have hd : (pre ++ (itB (.rc r) ++ rest)).drop s.pos = packL 1 (bodyL r.stamp r.ws) ++ rest := by rw [hpos, List.drop_left]; rfl
  unfold lgStep
  rw [hd, tkE_pack 1 _ _ h2, if_neg (by simp), get_pack, tkB_pack _ _ _ h2, psB_rec h1]
  unfold lgB itS itB
  simp only []
  rw [tkN_pack _ _ _ h2, pack_len]
theorem lg_step_mk {pre rest : List UInt8} {s : Lg} {n : Nat} (hpos : s.pos = pre.length) (h1 : n ≤ 2147483647) (h2 : s.last < (n : Int)) : lgStep (pre ++ (itB (.mk n) ++ rest)) s = some (itS s (.mk n)) := by
  have hl : (fourL n).length ≤ 1048576 := by simp [fourL]
  have hd : (pre ++ (itB (.mk n) ++ rest)).drop s.pos = packL 2 (fourL n) ++ rest := by rw [hpos, List.drop_left]; rfl
  unfold lgStep
  rw [hd, tkE_pack 2 _ _ hl, if_neg (by simp), get_pack, tkB_pack _ _ _ hl, psB_mk h1]
  unfold lgB itS itB
  simp only []
  rw [if_neg (by omega), tkN_pack _ _ _ hl, pack_len]
theorem itS_pos (s : Lg) (i : It) : (itS s i).pos = s.pos + (itB i).length := by cases i <;> rfl
theorem lg_items : ∀ (items : List It) (pre tail : List UInt8) (s : Lg) (k : Nat), itOk s.last items → tkE tail ≠ 0 → s.pos = pre.length → (pre ++ (items.flatMap itB ++ tail)).length < s.pos + k → lgRun (pre ++ (items.flatMap itB ++ tail)) k s = items.foldl itS s
  | [], pre, tail, s, k, _, ht, hpos, _ => by
    refine lgRun_stop ?_
    unfold lgStep
    rw [List.flatMap_nil, List.nil_append, hpos, List.drop_left, if_pos ht]
  | i :: items, pre, tail, s, k, hok, ht, hpos, hk => by
    have hp := itB_pos i
    rw [List.flatMap_cons] at hk ⊢
    simp only [List.length_append] at hk
    have hs : lgStep (pre ++ (itB i ++ items.flatMap itB ++ tail)) s = some (itS s i) := by
      rw [List.append_assoc]
      cases i with
      | rc r => exact lg_step_rc hpos hok.1 hok.2.1
      | mk n => exact lg_step_mk hpos hok.1 hok.2.1
    have hk0 : 0 < k := by omega
    rw [lgRun_step hs hk0, List.foldl_cons]
    have hok2 : itOk (itS s i).last items := by
      cases i with
      | rc r => exact hok.2.2
      | mk n => exact hok.2.2
    have := lg_items items (pre ++ itB i) tail (itS s i) (k - 1) hok2 ht (by rw [itS_pos, List.length_append, hpos]) (by simp only [List.length_append]; rw [itS_pos]; omega)
    rw [List.append_assoc]
    rw [List.append_assoc] at this
    exact this
theorem lgN_items (items : List It) (tail : List UInt8) (hok : itOk (-1) items) (ht : tkE tail ≠ 0) : lgN (items.flatMap itB ++ tail) = items.foldl itS ⟨[], [], -1, 0, 0⟩ := by
  have := lg_items items [] tail ⟨[], [], -1, 0, 0⟩ ((items.flatMap itB ++ tail).length + 1) hok ht rfl (by simp)
  exact this
theorem tkE_nil : tkE [] ≠ 0 := by unfold tkE; simp
end Go.Proofs.Ytcghgnncmnoalaa
