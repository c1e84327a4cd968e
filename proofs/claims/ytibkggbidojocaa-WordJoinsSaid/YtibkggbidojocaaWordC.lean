/- How many signs a text has; prefixes; pieces of texts. -/
import Derived.Test.YtibkggbidojocaaWordM
namespace Go.Proofs.Ytibkggbidojocaa
open Go.Am Go.Lib
set_option maxRecDepth 100000
set_option linter.unusedSimpArgs false
set_option linter.unusedVariables false
set_option linter.unusedSectionVars false

theorem ext_of (l : List UInt8) (a b : Nat) : ByteArray.extract (strOf l) a b = strOf ((l.drop a).take (b - a)) := by
  apply ByteArray.ext
  simp [strOf, List.take_drop, ByteArray.data_extract]

theorem join_of (a b : List UInt8) : joinS (strOf a) (strOf b) = strOf (a ++ b) := by
  apply ByteArray.ext
  simp [strOf, joinS]

theorem joinOk_of {a b : List UInt8} (h : a.length + b.length ≤ 1000000000) : joinOk (strOf a) (strOf b) = true := by
  unfold joinOk
  rw [strOf_size, strOf_size]
  exact Nat.ble_eq_true_of_le (by omega)

section
variable {H : Am.Heap} {K : V → Am.Heap → Prop} {bs : List UInt8}

theorem sp_prefix (l p : List UInt8) : Am.Rec.call (Am.Run env) 19 [.str (strOf l), .str (strOf p)] H K = K (.bool (decide (l.take p.length = p))) H := by
  rw [eq19]
  simp only [eq31, strOf_size]
  by_cases h : p.length ≤ l.length
  · have h1 : (l.length : Int) ≥ (p.length : Int) := by omega
    have h2 : (0 : Int) ≤ (p.length : Int) := by omega
    have h3 : (p.length : Int) ≤ (l.length : Int) := by omega
    simp only [h1, h2, h3, joinP_eq, br_true, br_false, req_true, look_cons, look_nil, reduceIte, reduceCtorEq, T_val_v, isKT_k, isKT_agg, isKT_lp, isLK_c, locCells_c, nthV_zero, nthV_one, nthV_two, vals_tuple, aggCells_agg, isAgg_agg, getInt_int, getBool_bool, getStr_str, getPtr_ptr, slPtr_slice, slLen_slice, slCap_slice, isK_int, isK_bool, isK_str, isK_ptr, isK_slice, isTuple_tuple, List.length_cons, List.length_nil, Bool.and_true, Bool.true_and, Bool.or_false, Bool.false_or, Bool.and_self, decide_true, decide_false, Bool.not_true, Bool.not_false, beq_dec, ble_dec, Nat.reduceAdd, Nat.reduceEqDiff, Nat.reduceEqDiff, ext_of, strEq_of, List.drop_zero, Nat.sub_zero]
  · have h1 : ¬ (l.length : Int) ≥ (p.length : Int) := by omega
    have h2 : ¬ (l.take p.length = p) := by
      intro e
      have := congrArg List.length e
      rw [List.length_take] at this
      omega
    simp only [h1, h2, joinP_eq, br_true, br_false, req_true, look_cons, look_nil, reduceIte, reduceCtorEq, T_val_v, isKT_k, isKT_agg, isKT_lp, isLK_c, locCells_c, nthV_zero, nthV_one, nthV_two, vals_tuple, aggCells_agg, isAgg_agg, getInt_int, getBool_bool, getStr_str, getPtr_ptr, slPtr_slice, slLen_slice, slCap_slice, isK_int, isK_bool, isK_str, isK_ptr, isK_slice, isTuple_tuple, List.length_cons, List.length_nil, Bool.and_true, Bool.true_and, Bool.or_false, Bool.false_or, Bool.and_self, decide_true, decide_false, Bool.not_true, Bool.not_false, beq_dec, ble_dec, Nat.reduceAdd, Nat.reduceEqDiff, Nat.reduceEqDiff]

/-- The sign that stands for a fault: is it one? -/
theorem sp_whole {i : Nat} (hi : i < bs.length) (hd : (decodeL (bs.drop i)).1 = 65533) :
    Am.Rec.call (Am.Run env) 19 [.str (ByteArray.extract (strOf bs) i bs.length), .str (strOf [239, 191, 189])] H K = K (.bool (decide ((sgn (bs.drop i)).1 ≠ 0))) H := by
  have e1 : (bs.drop i).take (bs.length - i) = bs.drop i := by rw [List.take_of_length_le (by simp)]
  rw [ext_of, e1, sp_prefix]
  have := err_prefix (drop_ne hi) hd
  congr 2
  simp only [List.length_cons, List.length_nil, Nat.zero_add, Nat.reduceAdd, this]

theorem count_doc (hb : bs.length ≤ 1000000) {Kr : St → Prop} {Ke : Nat → St → Prop}
    (hr : Kr (St.mk (Am.look [(2, T.v (V.int .i64 0)), (3, T.v (V.bool false))]) (Am.look []) H) = K (.tuple [.int .i64 0, .bool false]) H)
    (he : ∀ n : Nat, Ke 0 (St.mk (Am.look [(4, T.v (V.int .i64 (n : Int)))]) (Am.look []) H) = K (.tuple [.int .i64 (n : Int), .bool true]) H) :
    ∀ (f i n : Nat), bs.length ≤ i + f → n ≤ i →
    Am.Rec.loop (Am.Run env) (loopAt env 15 3) 15 3 (St.mk (Am.look [(0, T.v (V.str (strOf bs))), (4, T.v (V.int .i64 (n : Int))), (5, T.v (V.int .i64 (i : Int)))]) (Am.look []) H) Kr Ke =
      K (.tuple [.int .i64 ((cntW bs f i n).1 : Int), .bool (cntW bs f i n).2]) H
  | f, i, n, hf, hn => by
    rw [lp15_3]
    by_cases hl : bs.length ≤ i
    · have h1 : ¬ ((i : Int) < ((strOf bs).size : Int)) := by rw [strOf_size]; omega
      have e : cntW bs f i n = (n, true) := by
        cases f with
        | zero => rfl
        | succ f => unfold cntW; rw [if_pos hl]
      simp only [h1, decide_false, br_false]
      rw [he, e]
    · obtain ⟨f, rfl⟩ : ∃ g, f = g + 1 := ⟨f - 1, by omega⟩
      have h1 : ((i : Int) < ((strOf bs).size : Int)) := by rw [strOf_size]; omega
      simp only [h1, decide_true, br_true]
      rw [sp_sign (by omega) (by omega)]
      by_cases h0 : (sgn (bs.drop i)).1 = 0
      · have e : cntW bs (f + 1) i n = (0, false) := by unfold cntW; rw [if_neg hl, if_pos h0]
        have h2 : (((sgn (bs.drop i)).1 : Nat) : Int) = 0 := by omega
        simp only [joinP_eq, br_true, br_false, req_true, look_cons, look_nil, reduceIte, reduceCtorEq, T_val_v, isKT_k, isKT_agg, isKT_lp, isLK_c, locCells_c, nthV_zero, nthV_one, nthV_two, vals_tuple, aggCells_agg, isAgg_agg, getInt_int, getBool_bool, getStr_str, getPtr_ptr, slPtr_slice, slLen_slice, slCap_slice, isK_int, isK_bool, isK_str, isK_ptr, isK_slice, isTuple_tuple, List.length_cons, List.length_nil, Bool.and_true, Bool.true_and, Bool.or_false, Bool.false_or, Bool.and_self, decide_true, decide_false, Bool.not_true, Bool.not_false, beq_dec, ble_dec, Nat.reduceAdd, Nat.reduceEqDiff, Nat.reduceEqDiff, h2]
        rw [hr, e]
        rfl
      · have e : cntW bs (f + 1) i n = cntW bs f (i + (sgn (bs.drop i)).1) (n + 1) := by
          conv => lhs; unfold cntW
          rw [if_neg hl, if_neg h0]
        have h2 : ¬ (((sgn (bs.drop i)).1 : Nat) : Int) = 0 := by omega
        have hs := @sgn_small (bs.drop i)
        have e3 : IntKind.i64.wrap ((n : Int) + 1) = ((n + 1 : Nat) : Int) := wrap_succ (by omega)
        have e4 : IntKind.i64.wrap ((i : Int) + ((sgn (bs.drop i)).1 : Int)) = ((i + (sgn (bs.drop i)).1 : Nat) : Int) := by rw [wrap_in (by omega) (by omega)]; omega
        simp only [joinP_eq, br_true, br_false, req_true, look_cons, look_nil, reduceIte, reduceCtorEq, T_val_v, isKT_k, isKT_agg, isKT_lp, isLK_c, locCells_c, nthV_zero, nthV_one, nthV_two, vals_tuple, aggCells_agg, isAgg_agg, getInt_int, getBool_bool, getStr_str, getPtr_ptr, slPtr_slice, slLen_slice, slCap_slice, isK_int, isK_bool, isK_str, isK_ptr, isK_slice, isTuple_tuple, List.length_cons, List.length_nil, Bool.and_true, Bool.true_and, Bool.or_false, Bool.false_or, Bool.and_self, decide_true, decide_false, Bool.not_true, Bool.not_false, beq_dec, ble_dec, Nat.reduceAdd, Nat.reduceEqDiff, Nat.reduceEqDiff, h2, e3, e4]
        rw [count_doc hb hr he f _ _ (by omega) (by omega), e]

theorem sp_rCount (hb : bs.length ≤ 1000000) : Am.Rec.call (Am.Run env) 15 [.str (strOf bs)] H K = K (.tuple [.int .i64 ((cntW bs bs.length 0 0).1 : Int), .bool (cntW bs bs.length 0 0).2]) H := by
  rw [eq15]
  exact count_doc hb (by simp only [joinP_eq, br_true, br_false, req_true, look_cons, look_nil, reduceIte, reduceCtorEq, T_val_v, isKT_k, isKT_agg, isKT_lp, isLK_c, locCells_c, nthV_zero, nthV_one, nthV_two, vals_tuple, aggCells_agg, isAgg_agg, getInt_int, getBool_bool, getStr_str, getPtr_ptr, slPtr_slice, slLen_slice, slCap_slice, isK_int, isK_bool, isK_str, isK_ptr, isK_slice, isTuple_tuple, List.length_cons, List.length_nil, Bool.and_true, Bool.true_and, Bool.or_false, Bool.false_or, Bool.and_self, decide_true, decide_false, Bool.not_true, Bool.not_false, beq_dec, ble_dec, Nat.reduceAdd, Nat.reduceEqDiff, Nat.reduceEqDiff]) (fun n => by simp only [joinP_eq, br_true, br_false, req_true, look_cons, look_nil, reduceIte, reduceCtorEq, T_val_v, isKT_k, isKT_agg, isKT_lp, isLK_c, locCells_c, nthV_zero, nthV_one, nthV_two, vals_tuple, aggCells_agg, isAgg_agg, getInt_int, getBool_bool, getStr_str, getPtr_ptr, slPtr_slice, slLen_slice, slCap_slice, isK_int, isK_bool, isK_str, isK_ptr, isK_slice, isTuple_tuple, List.length_cons, List.length_nil, Bool.and_true, Bool.true_and, Bool.or_false, Bool.false_or, Bool.and_self, decide_true, decide_false, Bool.not_true, Bool.not_false, beq_dec, ble_dec, Nat.reduceAdd, Nat.reduceEqDiff, Nat.reduceEqDiff]) bs.length 0 0 (by omega) (by omega)

theorem count_go (hb : bs.length ≤ 1000000) {Kr : St → Prop} {Ke : Nat → St → Prop}
    (hr : Kr (St.mk (Am.look [(2, T.v (V.int .i64 0)), (3, T.v (V.bool false))]) (Am.look []) H) = K (.tuple [.int .i64 0, .bool false]) H)
    (he : ∀ n : Nat, Ke 0 (St.mk (Am.look [(4, T.v (V.int .i64 (n : Int)))]) (Am.look []) H) = K (.tuple [.int .i64 (n : Int), .bool true]) H) :
    ∀ (f i n : Nat), bs.length ≤ i + f → n ≤ i →
    Am.Rec.loop (Am.Run env) (loopAt env 14 3) 14 3 (St.mk (Am.look [(0, T.v (V.str (strOf bs))), (4, T.v (V.int .i64 (n : Int))), (8, T.lp 8 0)]) (Am.look [(8, Loc.iter (strOf bs) i)]) H) Kr Ke =
      K (.tuple [.int .i64 ((cntW bs f i n).1 : Int), .bool (cntW bs f i n).2]) H
  | f, i, n, hf, hn => by
    rw [lp14_3]
    by_cases hl : bs.length ≤ i
    · have h1 : Nat.ble (Nat.succ i) (strOf bs).size = false := by rw [strOf_size]; simp; omega
      have e : cntW bs f i n = (n, true) := by
        cases f with
        | zero => rfl
        | succ f => unfold cntW; rw [if_pos hl]
      simp only [h1, br_false]
      rw [he, e]
    · obtain ⟨f, rfl⟩ : ∃ g, f = g + 1 := ⟨f - 1, by omega⟩
      have h1 : Nat.ble (Nat.succ i) (strOf bs).size = true := by rw [strOf_size]; simp; omega
      simp only [h1, br_true, decode_drop]
      have hs := @sgn_small (bs.drop i)
      have e3 : IntKind.i64.wrap ((n : Int) + 1) = ((n + 1 : Nat) : Int) := wrap_succ (by omega)
      by_cases hd : (decodeL (bs.drop i)).1 = 65533
      · have h2 : (((decodeL (bs.drop i)).1 : Nat) : Int) = 65533 := by omega
        have h3 : (0 : Int) ≤ (i : Int) := by omega
        have h4 : (i : Int) ≤ ((strOf bs).size : Int) := by rw [strOf_size]; omega
        simp only [h2, h3, h4, decide_true, br_true, Bool.and_self, req_true]
        rw [strOf_size, sp_whole (by omega) hd]
        by_cases h0 : (sgn (bs.drop i)).1 = 0
        · have e : cntW bs (f + 1) i n = (0, false) := by unfold cntW; rw [if_neg hl, if_pos h0]
          simp only [joinP_eq, br_true, br_false, req_true, look_cons, look_nil, reduceIte, reduceCtorEq, T_val_v, isKT_k, isKT_agg, isKT_lp, isLK_c, locCells_c, nthV_zero, nthV_one, nthV_two, vals_tuple, aggCells_agg, isAgg_agg, getInt_int, getBool_bool, getStr_str, getPtr_ptr, slPtr_slice, slLen_slice, slCap_slice, isK_int, isK_bool, isK_str, isK_ptr, isK_slice, isTuple_tuple, List.length_cons, List.length_nil, Bool.and_true, Bool.true_and, Bool.or_false, Bool.false_or, Bool.and_self, decide_true, decide_false, Bool.not_true, Bool.not_false, beq_dec, ble_dec, Nat.reduceAdd, Nat.reduceEqDiff, Nat.reduceEqDiff, h0, ne_eq, not_true_eq_false]
          rw [hr, e]
          rfl
        · have e : cntW bs (f + 1) i n = cntW bs f (i + (sgn (bs.drop i)).1) (n + 1) := by
            conv => lhs; unfold cntW
            rw [if_neg hl, if_neg h0]
          simp only [joinP_eq, br_true, br_false, req_true, look_cons, look_nil, reduceIte, reduceCtorEq, T_val_v, isKT_k, isKT_agg, isKT_lp, isLK_c, locCells_c, nthV_zero, nthV_one, nthV_two, vals_tuple, aggCells_agg, isAgg_agg, getInt_int, getBool_bool, getStr_str, getPtr_ptr, slPtr_slice, slLen_slice, slCap_slice, isK_int, isK_bool, isK_str, isK_ptr, isK_slice, isTuple_tuple, List.length_cons, List.length_nil, Bool.and_true, Bool.true_and, Bool.or_false, Bool.false_or, Bool.and_self, decide_true, decide_false, Bool.not_true, Bool.not_false, beq_dec, ble_dec, Nat.reduceAdd, Nat.reduceEqDiff, Nat.reduceEqDiff, h0, ne_eq, not_false_eq_true, e3, dec_of_sgn h0]
          rw [count_go hb hr he f _ _ (by omega) (by omega), e]
      · have h0 : (sgn (bs.drop i)).1 ≠ 0 := fun h => hd (by rw [dec_bad h])
        have h2 : ¬ (((sgn (bs.drop i)).2 : Nat) : Int) = 65533 := by rw [dec_of_sgn h0] at hd; dsimp only at hd; omega
        have e : cntW bs (f + 1) i n = cntW bs f (i + (sgn (bs.drop i)).1) (n + 1) := by
          conv => lhs; unfold cntW
          rw [if_neg hl, if_neg h0]
        simp only [dec_of_sgn h0, h2, decide_false, br_false, e3]
        rw [count_go hb hr he f _ _ (by omega) (by omega), e]

theorem sp_Count (hb : bs.length ≤ 1000000) : Am.Rec.call (Am.Run env) 14 [.str (strOf bs)] H K = K (.tuple [.int .i64 ((cntW bs bs.length 0 0).1 : Int), .bool (cntW bs bs.length 0 0).2]) H := by
  rw [eq14]
  exact count_go hb (by simp only [joinP_eq, br_true, br_false, req_true, look_cons, look_nil, reduceIte, reduceCtorEq, T_val_v, isKT_k, isKT_agg, isKT_lp, isLK_c, locCells_c, nthV_zero, nthV_one, nthV_two, vals_tuple, aggCells_agg, isAgg_agg, getInt_int, getBool_bool, getStr_str, getPtr_ptr, slPtr_slice, slLen_slice, slCap_slice, isK_int, isK_bool, isK_str, isK_ptr, isK_slice, isTuple_tuple, List.length_cons, List.length_nil, Bool.and_true, Bool.true_and, Bool.or_false, Bool.false_or, Bool.and_self, decide_true, decide_false, Bool.not_true, Bool.not_false, beq_dec, ble_dec, Nat.reduceAdd, Nat.reduceEqDiff, Nat.reduceEqDiff]) (fun n => by simp only [joinP_eq, br_true, br_false, req_true, look_cons, look_nil, reduceIte, reduceCtorEq, T_val_v, isKT_k, isKT_agg, isKT_lp, isLK_c, locCells_c, nthV_zero, nthV_one, nthV_two, vals_tuple, aggCells_agg, isAgg_agg, getInt_int, getBool_bool, getStr_str, getPtr_ptr, slPtr_slice, slLen_slice, slCap_slice, isK_int, isK_bool, isK_str, isK_ptr, isK_slice, isTuple_tuple, List.length_cons, List.length_nil, Bool.and_true, Bool.true_and, Bool.or_false, Bool.false_or, Bool.and_self, decide_true, decide_false, Bool.not_true, Bool.not_false, beq_dec, ble_dec, Nat.reduceAdd, Nat.reduceEqDiff, Nat.reduceEqDiff]) bs.length 0 0 (by omega) (by omega)
end
end Go.Proofs.Ytibkggbidojocaa
