/- How many signs a text has; prefixes; pieces of texts. -/
import Derived.Test.YtibkggbidojocaaDoorWordM
namespace Go.Proofs.YtibkggbidojocaaDoor
open Go.Am Go.Lib
set_option maxRecDepth 100000
set_option linter.unusedSimpArgs false
set_option linter.unusedVariables false
set_option linter.unusedSectionVars false

theorem ext_of (l : List UInt8) (a b : Nat) : ByteArray.extract (strOf l) a b = strOf ((l.drop a).take (b - a)) := by
  apply ByteArray.ext
  simp [strOf, List.take_drop, ByteArray.data_extract]

theorem join_of (a b : List UInt8) : joinS (strOf a) (strOf b) = strOf (a ++ b) := by
  apply ByteArray.ext
  simp [strOf, joinS]

theorem joinOk_of {a b : List UInt8} (h : a.length + b.length ≤ 1000000000) : joinOk (strOf a) (strOf b) = true := by
  unfold joinOk
  rw [strOf_size, strOf_size]
  exact Nat.ble_eq_true_of_le (by omega)

section

variable {H : Am.Heap} {K : V → Am.Heap → Prop} {bs : List UInt8}

theorem sp_prefix (l p : List UInt8) : Am.Rec.call (Am.Run env) 15 [.str (strOf l), .str (strOf p)] H K = K (.bool (decide (l.take p.length = p))) H := by
  rw [eq15]
  simp only [eq27, strOf_size]
  by_cases h : p.length ≤ l.length
  · have h1 : (l.length : Int) ≥ (p.length : Int) := by omega
    have h2 : (0 : Int) ≤ (p.length : Int) := by omega
    have h3 : (p.length : Int) ≤ (l.length : Int) := by omega
    simp only [h1, h2, h3, joinP_eq, br_true, br_false, req_true, look_cons, look_nil, reduceIte, reduceCtorEq, T_val_v, isKT_k, isKT_agg, isKT_lp, isLK_c, locCells_c, nthV_zero, nthV_one, nthV_two, vals_tuple, aggCells_agg, isAgg_agg, getInt_int, getBool_bool, getStr_str, getPtr_ptr, slPtr_slice, slLen_slice, slCap_slice, isK_int, isK_bool, isK_str, isK_ptr, isK_slice, isTuple_tuple, List.length_cons, List.length_nil, Bool.and_true, Bool.true_and, Bool.or_false, Bool.false_or, Bool.and_self, decide_true, decide_false, Bool.not_true, Bool.not_false, beq_dec, ble_dec, Nat.reduceAdd, Nat.reduceEqDiff, Nat.reduceEqDiff, ext_of, strEq_of, List.drop_zero, Nat.sub_zero]
  · have h1 : ¬ (l.length : Int) ≥ (p.length : Int) := by omega
    have h2 : ¬ (l.take p.length = p) := by
      intro e
      have := congrArg List.length e
      rw [List.length_take] at this
      omega
    simp only [h1, h2, joinP_eq, br_true, br_false, req_true, look_cons, look_nil, reduceIte, reduceCtorEq, T_val_v, isKT_k, isKT_agg, isKT_lp, isLK_c, locCells_c, nthV_zero, nthV_one, nthV_two, vals_tuple, aggCells_agg, isAgg_agg, getInt_int, getBool_bool, getStr_str, getPtr_ptr, slPtr_slice, slLen_slice, slCap_slice, isK_int, isK_bool, isK_str, isK_ptr, isK_slice, isTuple_tuple, List.length_cons, List.length_nil, Bool.and_true, Bool.true_and, Bool.or_false, Bool.false_or, Bool.and_self, decide_true, decide_false, Bool.not_true, Bool.not_false, beq_dec, ble_dec, Nat.reduceAdd, Nat.reduceEqDiff, Nat.reduceEqDiff]

/-- The sign that stands for a fault: is it one? -/
theorem sp_whole {i : Nat} (hi : i < bs.length) (hd : (decodeL (bs.drop i)).1 = 65533) :
    Am.Rec.call (Am.Run env) 15 [.str (ByteArray.extract (strOf bs) i bs.length), .str (strOf [239, 191, 189])] H K = K (.bool (decide ((sgn (bs.drop i)).1 ≠ 0))) H := by
  have e1 : (bs.drop i).take (bs.length - i) = bs.drop i := by rw [List.take_of_length_le (by simp)]
  rw [ext_of, e1, sp_prefix]
  have := err_prefix (drop_ne hi) hd
  congr 2
  simp only [List.length_cons, List.length_nil, Nat.zero_add, Nat.reduceAdd, this]

end

end Go.Proofs.YtibkggbidojocaaDoor
