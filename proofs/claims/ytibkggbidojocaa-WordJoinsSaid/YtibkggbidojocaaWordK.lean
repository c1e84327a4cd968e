/- Texts one behind the other; single signs; the laws on them. -/
import Derived.Test.YtibkggbidojocaaWordJ
namespace Go.Proofs.Ytibkggbidojocaa
open Go.Am Go.Lib
set_option maxRecDepth 100000
set_option linter.unusedSimpArgs false
set_option linter.unusedVariables false
set_option linter.unusedSectionVars false

/-! ### counts -/

section
variable {bs a b : List UInt8}

theorem cnt_fuel : ∀ (f g i n : Nat), bs.length ≤ i + f → bs.length ≤ i + g → cntW bs f i n = cntW bs g i n
  | 0, 0, i, n, _, _ => rfl
  | 0, g + 1, i, n, h, _ => by
    show (n, true) = _
    unfold cntW
    rw [if_pos (by omega)]
  | f + 1, 0, i, n, _, h => by
    show _ = (n, true)
    unfold cntW
    rw [if_pos (by omega)]
  | f + 1, g + 1, i, n, h1, h2 => by
    unfold cntW
    by_cases hl : bs.length ≤ i
    · rw [if_pos hl, if_pos hl]
    · rw [if_neg hl, if_neg hl]
      by_cases h0 : (sgn (bs.drop i)).1 = 0
      · rw [if_pos h0, if_pos h0]
      · rw [if_neg h0, if_neg h0]
        exact cnt_fuel f g _ _ (by omega) (by omega)

theorem drop_app_l {i : Nat} (h : i ≤ a.length) : (a ++ b).drop i = a.drop i ++ b := List.drop_append_of_le_length h
theorem drop_app_r (j : Nat) : (a ++ b).drop (a.length + j) = b.drop j := by simp [List.drop_append]

/-- A whole text, then another. -/
theorem cnt_left : ∀ (f i n : Nat), a.length ≤ i + f → i ≤ a.length → (cntW a f i n).2 = true → cntW (a ++ b) (a.length + b.length) i n = cntW (a ++ b) (a.length + b.length) a.length (cntW a f i n).1
  | f, i, n, hf, hi, h => by
    by_cases hl : a.length ≤ i
    · have e : cntW a f i n = (n, true) := by
        cases f with
        | zero => rfl
        | succ f => unfold cntW; rw [if_pos hl]
      have : i = a.length := by omega
      rw [e, this]
    · obtain ⟨f, rfl⟩ : ∃ g, f = g + 1 := ⟨f - 1, by omega⟩
      have hlt : i < a.length := by omega
      have hle := sgn_le (drop_ne hlt)
      rw [List.length_drop] at hle
      by_cases h0 : (sgn (a.drop i)).1 = 0
      · exfalso
        unfold cntW at h
        rw [if_neg hl, if_pos h0] at h
        cases h
      · have e : cntW a (f + 1) i n = cntW a f (i + (sgn (a.drop i)).1) (n + 1) := by
          conv => lhs; unfold cntW
          rw [if_neg hl, if_neg h0]
        rw [e] at h ⊢
        have ih := cnt_left f _ _ (by omega) (by omega) h
        rw [← ih, cnt_fuel (a.length + b.length) (a.length + b.length + 1) i n (by rw [List.length_append]; omega) (by rw [List.length_append]; omega)]
        conv => lhs; unfold cntW
        have hs : sgn ((a ++ b).drop i) = sgn (a.drop i) := by rw [drop_app_l (by omega)]; exact sgn_app (drop_ne hlt) h0
        rw [if_neg (by simp; omega), hs, if_neg h0]

theorem cnt_right : ∀ (f j n m : Nat), b.length ≤ j + f → cntW (a ++ b) f (a.length + j) (m + n) = ((if (cntW b f j n).2 = true then m + (cntW b f j n).1 else 0), (cntW b f j n).2)
  | 0, j, n, m, h => by
    show (m + n, true) = _
    simp [cntW]
  | f + 1, j, n, m, h => by
    unfold cntW
    by_cases hl : b.length ≤ j
    · rw [if_pos (by simp; omega), if_pos hl]; simp
    · rw [if_neg (by simp; omega), if_neg hl, drop_app_r]
      by_cases h0 : (sgn (b.drop j)).1 = 0
      · rw [if_pos h0, if_pos h0]; simp
      · rw [if_neg h0, if_neg h0, Nat.add_assoc, Nat.add_assoc]
        exact cnt_right f _ _ m (by omega)

theorem cnt_more : ∀ (f i n : Nat), (cntW bs f i n).2 = true → n ≤ (cntW bs f i n).1 ∧ (i < bs.length → bs.length ≤ i + f → n < (cntW bs f i n).1)
  | 0, i, n, h => ⟨Nat.le_refl _, fun a b => by omega⟩
  | f + 1, i, n, h => by
    revert h
    unfold cntW
    by_cases hl : bs.length ≤ i
    · rw [if_pos hl]; exact fun h => ⟨Nat.le_refl _, fun a b => by omega⟩
    · rw [if_neg hl]
      by_cases h0 : (sgn (bs.drop i)).1 = 0
      · rw [if_pos h0]; intro h; cases h
      · rw [if_neg h0]
        intro h
        have := (cnt_more f _ _ h).1
        exact ⟨by omega, fun _ _ => by omega⟩

abbrev cnt (bs : List UInt8) : Nat × Bool := cntW bs bs.length 0 0

theorem cnt_bad : ∀ (f i n : Nat), (cntW bs f i n).2 = false → (cntW bs f i n).1 = 0
  | 0, i, n, h => by cases h
  | f + 1, i, n, h => by
    revert h
    unfold cntW
    split
    · intro h; cases h
    · split
      · intro _; rfl
      · exact cnt_bad f _ _

theorem cnt_app (ha : (cnt a).2 = true) (hb : (cnt b).2 = true) : cnt (a ++ b) = ((cnt a).1 + (cnt b).1, true) := by
  have h1 := cnt_left (b := b) a.length 0 0 (by omega) (by omega) ha
  have h2 := cnt_right (a := a) (b := b) (a.length + b.length) 0 0 (cnt a).1 (by omega)
  have h3 : cntW b (a.length + b.length) 0 0 = cnt b := cnt_fuel _ _ _ _ (by omega) (by omega)
  unfold cnt at *
  rw [List.length_append, h1]
  rw [Nat.add_zero, Nat.add_zero] at h2
  rw [h2, h3, hb, if_pos rfl]

theorem cnt_pos (h : (cnt (a ++ b)).2 = true) (ha : (cnt a).2 = false) : 0 < (cnt (a ++ b)).1 := by
  have hne : 0 < a.length := by
    rcases Nat.eq_zero_or_pos a.length with h0 | h0
    · have := List.length_eq_zero_iff.1 h0
      subst this
      cases ha
    · exact h0
  exact (cnt_more _ _ _ h).2 (by simp; omega) (by omega)
end

section
variable {B : Am.Heap} {L : List Ast} {H : Am.Heap} {K : V → Am.Heap → Prop}

theorem law_WordAdds (h : Sat B H L) (x0 x1 : ByteArray) (l0 : x0.size ≤ maxLen) (l1 : x1.size ≤ maxLen) : Am.Rec.call (Am.Run env) 8 [.str x0, .str x1] H fun v _ => v = .bool true := by
  rw [eq8]
  refine sp_awake h (fun H1 h1 => ?_)
  have e0 : x0 = strOf (bytesOf x0) := (strOf_bytesOf x0).symm
  have e1 : x1 = strOf (bytesOf x1) := (strOf_bytesOf x1).symm
  rw [e0, e1]
  generalize bytesOf x0 = a
  generalize bytesOf x1 = b
  simp only [isK_bool, getBool_bool, req_true, strOf_size, Bool.not_true, Bool.not_false, cond_true]
  by_cases hb : a.length ≤ 1000 ∧ b.length ≤ 1000
  · have d1 : ¬ (a.length : Int) > 1000 := by omega
    have d2 : ¬ (b.length : Int) > 1000 := by omega
    simp only [d1, d2, decide_false, Bool.not_false, cond_true, br_false]
    rw [sp_Count (by omega)]
    simp only [joinP_eq, br_true, br_false, req_true, look_cons, look_nil, reduceIte, reduceCtorEq, T_val_v, isKT_k, isKT_agg, isKT_lp, isLK_c, locCells_c, nthV_zero, nthV_one, nthV_two, vals_tuple, aggCells_agg, isAgg_agg, getInt_int, getBool_bool, getStr_str, getPtr_ptr, slPtr_slice, slLen_slice, slCap_slice, isK_int, isK_bool, isK_str, isK_ptr, isK_slice, isTuple_tuple, List.length_cons, List.length_nil, Bool.and_true, Bool.true_and, Bool.or_false, Bool.false_or, Bool.and_self, decide_true, decide_false, Bool.not_true, Bool.not_false, beq_dec, ble_dec, Nat.reduceAdd, Nat.reduceEqDiff, Nat.reduceEqDiff]
    rw [sp_Count (by omega)]
    simp only [joinP_eq, br_true, br_false, req_true, look_cons, look_nil, reduceIte, reduceCtorEq, T_val_v, isKT_k, isKT_agg, isKT_lp, isLK_c, locCells_c, nthV_zero, nthV_one, nthV_two, vals_tuple, aggCells_agg, isAgg_agg, getInt_int, getBool_bool, getStr_str, getPtr_ptr, slPtr_slice, slLen_slice, slCap_slice, isK_int, isK_bool, isK_str, isK_ptr, isK_slice, isTuple_tuple, List.length_cons, List.length_nil, Bool.and_true, Bool.true_and, Bool.or_false, Bool.false_or, Bool.and_self, decide_true, decide_false, Bool.not_true, Bool.not_false, beq_dec, ble_dec, Nat.reduceAdd, Nat.reduceEqDiff, Nat.reduceEqDiff, joinOk_of (show a.length + b.length ≤ 1000000000 by omega), join_of]
    rw [sp_Count (by simp; omega)]
    have hn : ∀ l : List UInt8, l.length ≤ 1000 → (cnt l).1 ≤ 1000 := by
      intro l hl
      have key : ∀ (f i n : Nat), (cntW l f i n).1 ≤ n + f := by
        intro f
        induction f with
        | zero => intro i n; exact Nat.le_refl _
        | succ f ih =>
          intro i n
          unfold cntW
          split
          · exact Nat.le_add_right _ _
          · split
            · exact Nat.zero_le _
            · have := ih (i + (sgn (l.drop i)).1) (n + 1); omega
      have := key l.length 0 0
      unfold cnt
      omega
    have n1 := hn a hb.1
    have n2 := hn b hb.2
    have hA : cntW (a ++ b) (a ++ b).length 0 0 = cnt (a ++ b) := rfl
    have hB : cntW a a.length 0 0 = cnt a := rfl
    have hC : cntW b b.length 0 0 = cnt b := rfl
    simp only [joinP_eq, br_true, br_false, req_true, look_cons, look_nil, reduceIte, reduceCtorEq, T_val_v, isKT_k, isKT_agg, isKT_lp, isLK_c, locCells_c, nthV_zero, nthV_one, nthV_two, vals_tuple, aggCells_agg, isAgg_agg, getInt_int, getBool_bool, getStr_str, getPtr_ptr, slPtr_slice, slLen_slice, slCap_slice, isK_int, isK_bool, isK_str, isK_ptr, isK_slice, isTuple_tuple, List.length_cons, List.length_nil, Bool.and_true, Bool.true_and, Bool.or_false, Bool.false_or, Bool.and_self, decide_true, decide_false, Bool.not_true, Bool.not_false, beq_dec, ble_dec, Nat.reduceAdd, Nat.reduceEqDiff, Nat.reduceEqDiff, hA, hB, hC]
    have ew : IntKind.i64.wrap (((cnt a).1 : Int) + ((cnt b).1 : Int)) = (((cnt a).1 + (cnt b).1 : Nat) : Int) := by rw [wrap_in (by omega) (by omega)]; omega
    rw [ew]
    cases ha : (cnt a).2 with
    | true =>
      cases hb : (cnt b).2 with
      | true =>
        rw [cnt_app ha hb]
        simp only [joinP_eq, br_true, br_false, req_true, look_cons, look_nil, reduceIte, reduceCtorEq, T_val_v, isKT_k, isKT_agg, isKT_lp, isLK_c, locCells_c, nthV_zero, nthV_one, nthV_two, vals_tuple, aggCells_agg, isAgg_agg, getInt_int, getBool_bool, getStr_str, getPtr_ptr, slPtr_slice, slLen_slice, slCap_slice, isK_int, isK_bool, isK_str, isK_ptr, isK_slice, isTuple_tuple, List.length_cons, List.length_nil, Bool.and_true, Bool.true_and, Bool.or_false, Bool.false_or, Bool.and_self, decide_true, decide_false, Bool.not_true, Bool.not_false, beq_dec, ble_dec, Nat.reduceAdd, Nat.reduceEqDiff, Nat.reduceEqDiff]
      | false =>
        simp only [joinP_eq, br_true, br_false, req_true, look_cons, look_nil, reduceIte, reduceCtorEq, T_val_v, isKT_k, isKT_agg, isKT_lp, isLK_c, locCells_c, nthV_zero, nthV_one, nthV_two, vals_tuple, aggCells_agg, isAgg_agg, getInt_int, getBool_bool, getStr_str, getPtr_ptr, slPtr_slice, slLen_slice, slCap_slice, isK_int, isK_bool, isK_str, isK_ptr, isK_slice, isTuple_tuple, List.length_cons, List.length_nil, Bool.and_true, Bool.true_and, Bool.or_false, Bool.false_or, Bool.and_self, decide_true, decide_false, Bool.not_true, Bool.not_false, beq_dec, ble_dec, Nat.reduceAdd, Nat.reduceEqDiff, Nat.reduceEqDiff, cond_true, cond_false]
    | false =>
      cases hb : (cnt b).2 with
      | true =>
        simp only [joinP_eq, br_true, br_false, req_true, look_cons, look_nil, reduceIte, reduceCtorEq, T_val_v, isKT_k, isKT_agg, isKT_lp, isLK_c, locCells_c, nthV_zero, nthV_one, nthV_two, vals_tuple, aggCells_agg, isAgg_agg, getInt_int, getBool_bool, getStr_str, getPtr_ptr, slPtr_slice, slLen_slice, slCap_slice, isK_int, isK_bool, isK_str, isK_ptr, isK_slice, isTuple_tuple, List.length_cons, List.length_nil, Bool.and_true, Bool.true_and, Bool.or_false, Bool.false_or, Bool.and_self, decide_true, decide_false, Bool.not_true, Bool.not_false, beq_dec, ble_dec, Nat.reduceAdd, Nat.reduceEqDiff, Nat.reduceEqDiff, cond_true, cond_false, Bool.false_and]
      | false =>
        simp only [joinP_eq, br_true, br_false, req_true, look_cons, look_nil, reduceIte, reduceCtorEq, T_val_v, isKT_k, isKT_agg, isKT_lp, isLK_c, locCells_c, nthV_zero, nthV_one, nthV_two, vals_tuple, aggCells_agg, isAgg_agg, getInt_int, getBool_bool, getStr_str, getPtr_ptr, slPtr_slice, slLen_slice, slCap_slice, isK_int, isK_bool, isK_str, isK_ptr, isK_slice, isTuple_tuple, List.length_cons, List.length_nil, Bool.and_true, Bool.true_and, Bool.or_false, Bool.false_or, Bool.and_self, decide_true, decide_false, Bool.not_true, Bool.not_false, beq_dec, ble_dec, Nat.reduceAdd, Nat.reduceEqDiff, Nat.reduceEqDiff, cond_true, cond_false, Bool.false_and]
        cases hc : (cnt (a ++ b)).2 with
        | true =>
          have := cnt_pos hc ha
          have d3 : ((cnt (a ++ b)).1 : Int) > 0 := by omega
          simp only [joinP_eq, br_true, br_false, req_true, look_cons, look_nil, reduceIte, reduceCtorEq, T_val_v, isKT_k, isKT_agg, isKT_lp, isLK_c, locCells_c, nthV_zero, nthV_one, nthV_two, vals_tuple, aggCells_agg, isAgg_agg, getInt_int, getBool_bool, getStr_str, getPtr_ptr, slPtr_slice, slLen_slice, slCap_slice, isK_int, isK_bool, isK_str, isK_ptr, isK_slice, isTuple_tuple, List.length_cons, List.length_nil, Bool.and_true, Bool.true_and, Bool.or_false, Bool.false_or, Bool.and_self, decide_true, decide_false, Bool.not_true, Bool.not_false, beq_dec, ble_dec, Nat.reduceAdd, Nat.reduceEqDiff, Nat.reduceEqDiff, d3, cond_true]
        | false => rfl
  · by_cases hb1 : (a.length : Int) > 1000
    · simp only [hb1, decide_true, Bool.not_true, cond_false, br_true]
      exact sp_awake h1 (fun H2 h2 => rfl)
    · have hb2 : (b.length : Int) > 1000 := by omega
      simp only [hb1, hb2, decide_true, decide_false, Bool.not_false, cond_true, br_true]
      exact sp_awake h1 (fun H2 h2 => rfl)
end
end Go.Proofs.Ytibkggbidojocaa
