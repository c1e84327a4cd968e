/- Signs of a text: the calls that only read. -/
import Derived.Test.YtibkggbidojocaaEqsW
import Derived.Test.YtibkggbidojocaaWordR
import Derived.Test.YtibkggbidojocaaAmByt
namespace Go.Proofs.Ytibkggbidojocaa
open Go.Am Go.Lib
set_option maxRecDepth 100000
set_option linter.unusedSimpArgs false
set_option linter.unusedVariables false
set_option linter.unusedSectionVars false

/-- A byte of a text. -/
def bAt (bs : List UInt8) (i : Nat) : Nat := (bs.getD i 0).toNat
theorem bAt_lt (bs : List UInt8) (i : Nat) : bAt bs i < 256 := (bs.getD i 0).toNat_lt

theorem byteAt_of (bs : List UInt8) (i : Nat) : byteAt (strOf bs) i = (bAt bs i : Int) := by
  unfold byteAt bAt strOf
  have := getD_get!' (⟨bs.toArray⟩ : ByteArray) i
  simp only [List.toList_toArray] at this
  rw [this]

/-- A sign by its bytes. -/
def signN (n b0 b1 b2 b3 : Nat) : Nat × Nat :=
  if b0 < 128 then (1, b0)
  else if 192 ≤ b0 ∧ b0 < 224 then
    (if 1 < n then (if 128 ≤ b1 ∧ b1 ≤ 191 then (if (b0 - 192) * 64 + b1 - 128 < 128 then (0, 0) else (2, (b0 - 192) * 64 + b1 - 128)) else (0, 0)) else (0, 0))
  else if 224 ≤ b0 ∧ b0 < 240 then
    (if 2 < n then (if 128 ≤ b1 ∧ b1 ≤ 191 then (if 128 ≤ b2 ∧ b2 ≤ 191 then
      (if ((b0 - 224) * 64 + b1 - 128) * 64 + b2 - 128 < 2048 ∨ (55296 ≤ ((b0 - 224) * 64 + b1 - 128) * 64 + b2 - 128 ∧ ((b0 - 224) * 64 + b1 - 128) * 64 + b2 - 128 < 57344) then (0, 0) else (3, ((b0 - 224) * 64 + b1 - 128) * 64 + b2 - 128)) else (0, 0)) else (0, 0)) else (0, 0))
  else if 240 ≤ b0 ∧ b0 < 248 then
    (if 3 < n then (if 128 ≤ b1 ∧ b1 ≤ 191 then (if 128 ≤ b2 ∧ b2 ≤ 191 then (if 128 ≤ b3 ∧ b3 ≤ 191 then
      (if (((b0 - 240) * 64 + b1 - 128) * 64 + b2 - 128) * 64 + b3 - 128 < 65536 ∨ (((b0 - 240) * 64 + b1 - 128) * 64 + b2 - 128) * 64 + b3 - 128 > 1114111 then (0, 0) else (4, (((b0 - 240) * 64 + b1 - 128) * 64 + b2 - 128) * 64 + b3 - 128)) else (0, 0)) else (0, 0)) else (0, 0)) else (0, 0))
  else (0, 0)

set_option maxHeartbeats 4000000 in
theorem sgn_N (l : List UInt8) : sgn l = signN l.length (l.getD 0 0).toNat (l.getD 1 0).toNat (l.getD 2 0).toNat (l.getD 3 0).toNat := by
  have k0 := (l.getD 0 0).toNat_lt
  unfold sgn
  rw [decodeL_N]
  generalize (l.getD 0 0).toNat = b0 at *
  generalize (l.getD 1 0).toNat = b1 at *
  generalize (l.getD 2 0).toNat = b2 at *
  generalize (l.getD 3 0).toNat = b3 at *
  generalize l.length = n at *
  unfold decodeN signN
  repeat' split
  all_goals first | rfl | (exfalso; omega) | (apply Prod.ext <;> dsimp only <;> omega) | (exfalso; rename_i h; revert h; dsimp only; omega)

theorem sgn_at (bs : List UInt8) (i : Nat) : sgn (bs.drop i) = signN (bs.length - i) (bAt bs i) (bAt bs (i + 1)) (bAt bs (i + 2)) (bAt bs (i + 3)) := by
  rw [sgn_N, List.length_drop]
  unfold bAt
  rw [getD_dropU, getD_dropU, getD_dropU, getD_dropU, Nat.add_zero]

section
variable {H : Am.Heap} {K : V → Am.Heap → Prop} {bs : List UInt8}

theorem sign_step {i k n : Nat} {v l : Nat} (hk : k < n) (hi : i + k < bs.length) (hb : bs.length ≤ 2000000) (hv : v ≤ 1000000000) {Kr : St → Prop} {Ke : Nat → St → Prop} :
    Am.Rec.loop (Am.Run env) (loopAt env 22 28) 22 28 (St.mk (Am.look [(0, T.v (V.str (strOf bs))), (1, T.v (V.int .i64 (i : Int))), (7, T.v (V.int .i64 (n : Int))), (8, T.v (V.int .i64 (v : Int))), (9, T.v (V.int .i64 (l : Int))), (10, T.v (V.int .i64 (k : Int)))]) (Am.look []) H) Kr Ke =
      if 128 ≤ bAt bs (i + k) ∧ bAt bs (i + k) ≤ 191 then
        Am.Rec.loop (Am.Run env) (loopAt env 22 28) 22 28 (St.mk (Am.look [(0, T.v (V.str (strOf bs))), (1, T.v (V.int .i64 (i : Int))), (7, T.v (V.int .i64 (n : Int))), (8, T.v (V.int .i64 ((v * 64 + bAt bs (i + k) - 128 : Nat) : Int))), (9, T.v (V.int .i64 (l : Int))), (10, T.v (V.int .i64 ((k + 1 : Nat) : Int)))]) (Am.look []) H) Kr Ke
      else Kr (St.mk (Am.look [(4, T.v (V.int .i64 0)), (5, T.v (V.int .i64 0))]) (Am.look []) H) := by
  rw [lp22_28]
  have e1 : IntKind.i64.wrap ((i : Int) + (k : Int)) = ((i + k : Nat) : Int) := by rw [wrap_in (by omega) (by omega)]; omega
  have hlt := bAt_lt bs (i + k)
  have e2 : IntKind.i64.wrap ((bAt bs (i + k) : Nat) : Int) = (bAt bs (i + k) : Int) := wrap_in (by omega) (by omega)
  have e3 : IntKind.i64.wrap ((v : Int) * 64) = (v : Int) * 64 := wrap_in (by omega) (by omega)
  have e4 : IntKind.i64.wrap ((v : Int) * 64 + (bAt bs (i + k) : Int)) = (v : Int) * 64 + (bAt bs (i + k) : Int) := wrap_in (by omega) (by omega)
  have e5 : IntKind.i64.wrap ((k : Int) + 1) = ((k + 1 : Nat) : Int) := wrap_succ (by omega)
  have h1 : ((k : Int) < (n : Int)) := by omega
  have h2 : (0 : Int) ≤ ((i + k : Nat) : Int) := by omega
  have h3 : ((i + k : Nat) : Int) < ((strOf bs).size : Int) := by rw [strOf_size]; omega
  simp only [e1, Int.toNat_natCast, byteAt_of, e2, e3, e4, e5, h1, h2, h3, decide_true, Bool.and_self, br_true, req_true]
  by_cases hc : 128 ≤ bAt bs (i + k) ∧ bAt bs (i + k) ≤ 191
  · rw [if_pos hc]
    have a1 : ¬ ((bAt bs (i + k) : Int) < 128) := by omega
    have a2 : ¬ ((bAt bs (i + k) : Int) > 191) := by omega
    have e6 : IntKind.i64.wrap ((v : Int) * 64 + (bAt bs (i + k) : Int) - 128) = ((v * 64 + bAt bs (i + k) - 128 : Nat) : Int) := by rw [wrap_in (by omega) (by omega)]; omega
    simp only [a1, a2, decide_false, Bool.not_false, cond_true, br_false, e6]
  · rw [if_neg hc]
    by_cases a1 : (bAt bs (i + k) : Int) < 128
    · simp only [a1, decide_true, Bool.not_true, cond_false, br_true]
    · have a2 : (bAt bs (i + k) : Int) > 191 := by omega
      simp only [a1, a2, decide_false, decide_true, Bool.not_false, cond_true, br_true]

theorem sign_last {i n : Nat} {v l : Nat} {Kr : St → Prop} {Ke : Nat → St → Prop} :
    Am.Rec.loop (Am.Run env) (loopAt env 22 28) 22 28 (St.mk (Am.look [(0, T.v (V.str (strOf bs))), (1, T.v (V.int .i64 (i : Int))), (7, T.v (V.int .i64 (n : Int))), (8, T.v (V.int .i64 (v : Int))), (9, T.v (V.int .i64 (l : Int))), (10, T.v (V.int .i64 (n : Int)))]) (Am.look []) H) Kr Ke =
      Ke 1 (St.mk (Am.look [(7, T.v (V.int .i64 (n : Int))), (8, T.v (V.int .i64 (v : Int))), (9, T.v (V.int .i64 (l : Int)))]) (Am.look []) H) := by
  rw [lp22_28]
  have h1 : ¬ ((n : Int) < (n : Int)) := by omega
  simp only [h1, decide_false, br_false]

set_option maxHeartbeats 4000000 in
theorem sp_sign {i : Nat} (hi : i < bs.length) (hb : bs.length ≤ 2000000) :
    Am.Rec.call (Am.Run env) 22 [.str (strOf bs), .int .i64 (i : Int)] H K = K (.tuple [.int .i64 ((sgn (bs.drop i)).1 : Int), .int .i64 ((sgn (bs.drop i)).2 : Int)]) H := by
  rw [eq22, sgn_at]
  have hlt := bAt_lt bs i
  have h2 : (0 : Int) ≤ (i : Int) := by omega
  have h3 : (i : Int) < ((strOf bs).size : Int) := by rw [strOf_size]; omega
  have e2 : IntKind.i64.wrap ((bAt bs i : Nat) : Int) = (bAt bs i : Int) := wrap_in (by omega) (by omega)
  simp only [Int.toNat_natCast, byteAt_of, e2, h2, h3, decide_true, Bool.and_self, req_true]
  unfold signN
  by_cases c1 : bAt bs i < 128
  · have d1 : (bAt bs i : Int) < 128 := by omega
    rw [if_pos c1]
    simp only [d1, decide_true, br_true]
    all_goals rfl
  · have d1 : ¬ (bAt bs i : Int) < 128 := by omega
    rw [if_neg c1]
    simp only [d1, decide_false, br_false, joinP_eq]
    by_cases c2 : 192 ≤ bAt bs i ∧ bAt bs i < 224
    · have d2 : (bAt bs i : Int) ≥ 192 := by omega
      have d3 : (bAt bs i : Int) < 224 := by omega
      rw [if_pos c2]
      have e3 : IntKind.i64.wrap ((bAt bs i : Int) - 192) = ((bAt bs i - 192 : Nat) : Int) := by rw [wrap_in (by omega) (by omega)]; omega
      have e4 : IntKind.i64.wrap ((i : Int) + 2) = ((i + 2 : Nat) : Int) := by rw [wrap_in (by omega) (by omega)]; omega
      simp only [joinP_eq, br_true, br_false, req_true, look_cons, look_nil, reduceIte, reduceCtorEq, T_val_v, isKT_k, isKT_agg, isKT_lp, isLK_c, locCells_c, nthV_zero, nthV_one, nthV_two, vals_tuple, aggCells_agg, isAgg_agg, getInt_int, getBool_bool, getStr_str, getPtr_ptr, slPtr_slice, slLen_slice, slCap_slice, isK_int, isK_bool, isK_str, isK_ptr, isK_slice, isTuple_tuple, List.length_cons, List.length_nil, Bool.and_true, Bool.true_and, Bool.or_false, Bool.false_or, Bool.and_self, decide_true, decide_false, Bool.not_true, Bool.not_false, beq_dec, ble_dec, Nat.reduceAdd, Nat.reduceEqDiff, Nat.reduceEqDiff, d2, d3, e3, e4, strOf_size]
      by_cases c3 : 1 < bs.length - i
      · have d4 : ¬ (((i + 2 : Nat) : Int) > (bs.length : Int)) := by omega
        rw [if_pos c3]
        simp only [d4, decide_false, br_false]
        rw [show (V.int .i64 2) = V.int .i64 ((2 : Nat) : Int) from rfl, show (V.int .i64 128) = V.int .i64 ((128 : Nat) : Int) from rfl, show (V.int .i64 1) = V.int .i64 ((1 : Nat) : Int) from rfl,
          sign_step (by omega) (by omega) hb (by omega)]
        by_cases c4 : 128 ≤ bAt bs (i + 1) ∧ bAt bs (i + 1) ≤ 191
        · rw [if_pos c4, if_pos c4, sign_last]
          generalize hv : (bAt bs i - 192) * 64 + bAt bs (i + 1) - 128 = v
          simp only [joinP_eq, br_true, br_false, req_true, look_cons, look_nil, reduceIte, reduceCtorEq, T_val_v, isKT_k, isKT_agg, isKT_lp, isLK_c, locCells_c, nthV_zero, nthV_one, nthV_two, vals_tuple, aggCells_agg, isAgg_agg, getInt_int, getBool_bool, getStr_str, getPtr_ptr, slPtr_slice, slLen_slice, slCap_slice, isK_int, isK_bool, isK_str, isK_ptr, isK_slice, isTuple_tuple, List.length_cons, List.length_nil, Bool.and_true, Bool.true_and, Bool.or_false, Bool.false_or, Bool.and_self, decide_true, decide_false, Bool.not_true, Bool.not_false, beq_dec, ble_dec, Nat.reduceAdd, Nat.reduceEqDiff, Nat.reduceEqDiff]
          by_cases c5 : v < 128
          · have d5 : (v : Int) < ((128 : Nat) : Int) := by omega
            rw [if_pos c5]
            simp only [d5, joinP_eq, br_true, br_false, req_true, look_cons, look_nil, reduceIte, reduceCtorEq, T_val_v, isKT_k, isKT_agg, isKT_lp, isLK_c, locCells_c, nthV_zero, nthV_one, nthV_two, vals_tuple, aggCells_agg, isAgg_agg, getInt_int, getBool_bool, getStr_str, getPtr_ptr, slPtr_slice, slLen_slice, slCap_slice, isK_int, isK_bool, isK_str, isK_ptr, isK_slice, isTuple_tuple, List.length_cons, List.length_nil, Bool.and_true, Bool.true_and, Bool.or_false, Bool.false_or, Bool.and_self, decide_true, decide_false, Bool.not_true, Bool.not_false, beq_dec, ble_dec, Nat.reduceAdd, Nat.reduceEqDiff, Nat.reduceEqDiff, cond_false]
            all_goals rfl
          · have d5 : ¬ (v : Int) < ((128 : Nat) : Int) := by omega
            have d6 : ¬ (v : Int) > 1114111 := by omega
            have d7 : ¬ (v : Int) ≥ 55296 := by omega
            rw [if_neg c5]
            simp only [d5, d6, d7, joinP_eq, br_true, br_false, req_true, look_cons, look_nil, reduceIte, reduceCtorEq, T_val_v, isKT_k, isKT_agg, isKT_lp, isLK_c, locCells_c, nthV_zero, nthV_one, nthV_two, vals_tuple, aggCells_agg, isAgg_agg, getInt_int, getBool_bool, getStr_str, getPtr_ptr, slPtr_slice, slLen_slice, slCap_slice, isK_int, isK_bool, isK_str, isK_ptr, isK_slice, isTuple_tuple, List.length_cons, List.length_nil, Bool.and_true, Bool.true_and, Bool.or_false, Bool.false_or, Bool.and_self, decide_true, decide_false, Bool.not_true, Bool.not_false, beq_dec, ble_dec, Nat.reduceAdd, Nat.reduceEqDiff, Nat.reduceEqDiff, cond_true, Bool.false_and]
            all_goals rfl
        · rw [if_neg c4, if_neg c4]
          simp only [joinP_eq, br_true, br_false, req_true, look_cons, look_nil, reduceIte, reduceCtorEq, T_val_v, isKT_k, isKT_agg, isKT_lp, isLK_c, locCells_c, nthV_zero, nthV_one, nthV_two, vals_tuple, aggCells_agg, isAgg_agg, getInt_int, getBool_bool, getStr_str, getPtr_ptr, slPtr_slice, slLen_slice, slCap_slice, isK_int, isK_bool, isK_str, isK_ptr, isK_slice, isTuple_tuple, List.length_cons, List.length_nil, Bool.and_true, Bool.true_and, Bool.or_false, Bool.false_or, Bool.and_self, decide_true, decide_false, Bool.not_true, Bool.not_false, beq_dec, ble_dec, Nat.reduceAdd, Nat.reduceEqDiff, Nat.reduceEqDiff]
          all_goals rfl
      · have d4 : (((i + 2 : Nat) : Int) > (bs.length : Int)) := by omega
        rw [if_neg c3]
        simp only [d4, decide_true, br_true]
        all_goals rfl
    · rw [if_neg c2]
      have d2 : (decide ((bAt bs i : Int) ≥ 192) && decide ((bAt bs i : Int) < 224)) = false := by simp; omega
      by_cases c3 : 224 ≤ bAt bs i ∧ bAt bs i < 240
      · have d3 : (bAt bs i : Int) ≥ 224 := by omega
        have d4 : (bAt bs i : Int) < 240 := by omega
        rw [if_pos c3]
        have e3 : IntKind.i64.wrap ((bAt bs i : Int) - 224) = ((bAt bs i - 224 : Nat) : Int) := by rw [wrap_in (by omega) (by omega)]; omega
        have e4 : IntKind.i64.wrap ((i : Int) + 3) = ((i + 3 : Nat) : Int) := by rw [wrap_in (by omega) (by omega)]; omega
        simp only [joinP_eq, br_true, br_false, req_true, look_cons, look_nil, reduceIte, reduceCtorEq, T_val_v, isKT_k, isKT_agg, isKT_lp, isLK_c, locCells_c, nthV_zero, nthV_one, nthV_two, vals_tuple, aggCells_agg, isAgg_agg, getInt_int, getBool_bool, getStr_str, getPtr_ptr, slPtr_slice, slLen_slice, slCap_slice, isK_int, isK_bool, isK_str, isK_ptr, isK_slice, isTuple_tuple, List.length_cons, List.length_nil, Bool.and_true, Bool.true_and, Bool.or_false, Bool.false_or, Bool.and_self, decide_true, decide_false, Bool.not_true, Bool.not_false, beq_dec, ble_dec, Nat.reduceAdd, Nat.reduceEqDiff, Nat.reduceEqDiff, d2, d3, d4, e3, e4, strOf_size]
        by_cases c3 : 2 < bs.length - i
        · have d4 : ¬ (((i + 3 : Nat) : Int) > (bs.length : Int)) := by omega
          rw [if_pos c3]
          simp only [d4, decide_false, br_false]
          rw [show (V.int .i64 3) = V.int .i64 ((3 : Nat) : Int) from rfl, show (V.int .i64 2048) = V.int .i64 ((2048 : Nat) : Int) from rfl, show (V.int .i64 1) = V.int .i64 ((1 : Nat) : Int) from rfl,
            sign_step (by omega) (by omega) hb (by omega)]
          by_cases c4 : 128 ≤ bAt bs (i + 1) ∧ bAt bs (i + 1) ≤ 191
          · have hl1 := bAt_lt bs (i + 1)
            rw [if_pos c4, if_pos c4, sign_step (by omega) (by omega) hb (by omega)]
            by_cases c4' : 128 ≤ bAt bs (i + 2) ∧ bAt bs (i + 2) ≤ 191
            · rw [if_pos c4', if_pos c4', sign_last]
              generalize hv : ((bAt bs i - 224) * 64 + bAt bs (i + 1) - 128) * 64 + bAt bs (i + 2) - 128 = v
              simp only [joinP_eq, br_true, br_false, req_true, look_cons, look_nil, reduceIte, reduceCtorEq, T_val_v, isKT_k, isKT_agg, isKT_lp, isLK_c, locCells_c, nthV_zero, nthV_one, nthV_two, vals_tuple, aggCells_agg, isAgg_agg, getInt_int, getBool_bool, getStr_str, getPtr_ptr, slPtr_slice, slLen_slice, slCap_slice, isK_int, isK_bool, isK_str, isK_ptr, isK_slice, isTuple_tuple, List.length_cons, List.length_nil, Bool.and_true, Bool.true_and, Bool.or_false, Bool.false_or, Bool.and_self, decide_true, decide_false, Bool.not_true, Bool.not_false, beq_dec, ble_dec, Nat.reduceAdd, Nat.reduceEqDiff, Nat.reduceEqDiff]
              by_cases c5 : v < 2048
              · have d5 : (v : Int) < ((2048 : Nat) : Int) := by omega
                rw [if_pos (Or.inl c5)]
                simp only [d5, joinP_eq, br_true, br_false, req_true, look_cons, look_nil, reduceIte, reduceCtorEq, T_val_v, isKT_k, isKT_agg, isKT_lp, isLK_c, locCells_c, nthV_zero, nthV_one, nthV_two, vals_tuple, aggCells_agg, isAgg_agg, getInt_int, getBool_bool, getStr_str, getPtr_ptr, slPtr_slice, slLen_slice, slCap_slice, isK_int, isK_bool, isK_str, isK_ptr, isK_slice, isTuple_tuple, List.length_cons, List.length_nil, Bool.and_true, Bool.true_and, Bool.or_false, Bool.false_or, Bool.and_self, decide_true, decide_false, Bool.not_true, Bool.not_false, beq_dec, ble_dec, Nat.reduceAdd, Nat.reduceEqDiff, Nat.reduceEqDiff, cond_false]
                all_goals rfl
              · have d5 : ¬ (v : Int) < ((2048 : Nat) : Int) := by omega
                have d6 : ¬ (v : Int) > 1114111 := by omega
                by_cases c6 : 55296 ≤ v ∧ v < 57344
                · have d7 : (v : Int) ≥ 55296 := by omega
                  have d8 : (v : Int) < 57344 := by omega
                  rw [if_pos (Or.inr c6)]
                  simp only [d5, d6, d7, d8, joinP_eq, br_true, br_false, req_true, look_cons, look_nil, reduceIte, reduceCtorEq, T_val_v, isKT_k, isKT_agg, isKT_lp, isLK_c, locCells_c, nthV_zero, nthV_one, nthV_two, vals_tuple, aggCells_agg, isAgg_agg, getInt_int, getBool_bool, getStr_str, getPtr_ptr, slPtr_slice, slLen_slice, slCap_slice, isK_int, isK_bool, isK_str, isK_ptr, isK_slice, isTuple_tuple, List.length_cons, List.length_nil, Bool.and_true, Bool.true_and, Bool.or_false, Bool.false_or, Bool.and_self, decide_true, decide_false, Bool.not_true, Bool.not_false, beq_dec, ble_dec, Nat.reduceAdd, Nat.reduceEqDiff, Nat.reduceEqDiff, cond_true]
                  all_goals rfl
                · have d7 : (decide ((v : Int) ≥ 55296) && decide ((v : Int) < 57344)) = false := by simp; omega
                  rw [if_neg (by omega)]
                  simp only [d5, d6, d7, joinP_eq, br_true, br_false, req_true, look_cons, look_nil, reduceIte, reduceCtorEq, T_val_v, isKT_k, isKT_agg, isKT_lp, isLK_c, locCells_c, nthV_zero, nthV_one, nthV_two, vals_tuple, aggCells_agg, isAgg_agg, getInt_int, getBool_bool, getStr_str, getPtr_ptr, slPtr_slice, slLen_slice, slCap_slice, isK_int, isK_bool, isK_str, isK_ptr, isK_slice, isTuple_tuple, List.length_cons, List.length_nil, Bool.and_true, Bool.true_and, Bool.or_false, Bool.false_or, Bool.and_self, decide_true, decide_false, Bool.not_true, Bool.not_false, beq_dec, ble_dec, Nat.reduceAdd, Nat.reduceEqDiff, Nat.reduceEqDiff, cond_true]
                  all_goals rfl
            · rw [if_neg c4', if_neg c4']
              simp only [joinP_eq, br_true, br_false, req_true, look_cons, look_nil, reduceIte, reduceCtorEq, T_val_v, isKT_k, isKT_agg, isKT_lp, isLK_c, locCells_c, nthV_zero, nthV_one, nthV_two, vals_tuple, aggCells_agg, isAgg_agg, getInt_int, getBool_bool, getStr_str, getPtr_ptr, slPtr_slice, slLen_slice, slCap_slice, isK_int, isK_bool, isK_str, isK_ptr, isK_slice, isTuple_tuple, List.length_cons, List.length_nil, Bool.and_true, Bool.true_and, Bool.or_false, Bool.false_or, Bool.and_self, decide_true, decide_false, Bool.not_true, Bool.not_false, beq_dec, ble_dec, Nat.reduceAdd, Nat.reduceEqDiff, Nat.reduceEqDiff]
              all_goals rfl
          · rw [if_neg c4, if_neg c4]
            simp only [joinP_eq, br_true, br_false, req_true, look_cons, look_nil, reduceIte, reduceCtorEq, T_val_v, isKT_k, isKT_agg, isKT_lp, isLK_c, locCells_c, nthV_zero, nthV_one, nthV_two, vals_tuple, aggCells_agg, isAgg_agg, getInt_int, getBool_bool, getStr_str, getPtr_ptr, slPtr_slice, slLen_slice, slCap_slice, isK_int, isK_bool, isK_str, isK_ptr, isK_slice, isTuple_tuple, List.length_cons, List.length_nil, Bool.and_true, Bool.true_and, Bool.or_false, Bool.false_or, Bool.and_self, decide_true, decide_false, Bool.not_true, Bool.not_false, beq_dec, ble_dec, Nat.reduceAdd, Nat.reduceEqDiff, Nat.reduceEqDiff]
            all_goals rfl
        · have d4 : (((i + 3 : Nat) : Int) > (bs.length : Int)) := by omega
          rw [if_neg c3]
          simp only [d4, decide_true, br_true]
          all_goals rfl
      · rw [if_neg c3]
        have d3 : (decide ((bAt bs i : Int) ≥ 224) && decide ((bAt bs i : Int) < 240)) = false := by simp; omega
        by_cases c4 : 240 ≤ bAt bs i ∧ bAt bs i < 248
        · have d4 : (bAt bs i : Int) ≥ 240 := by omega
          have d5 : (bAt bs i : Int) < 248 := by omega
          rw [if_pos c4]
          have e3 : IntKind.i64.wrap ((bAt bs i : Int) - 240) = ((bAt bs i - 240 : Nat) : Int) := by rw [wrap_in (by omega) (by omega)]; omega
          have e4 : IntKind.i64.wrap ((i : Int) + 4) = ((i + 4 : Nat) : Int) := by rw [wrap_in (by omega) (by omega)]; omega
          simp only [joinP_eq, br_true, br_false, req_true, look_cons, look_nil, reduceIte, reduceCtorEq, T_val_v, isKT_k, isKT_agg, isKT_lp, isLK_c, locCells_c, nthV_zero, nthV_one, nthV_two, vals_tuple, aggCells_agg, isAgg_agg, getInt_int, getBool_bool, getStr_str, getPtr_ptr, slPtr_slice, slLen_slice, slCap_slice, isK_int, isK_bool, isK_str, isK_ptr, isK_slice, isTuple_tuple, List.length_cons, List.length_nil, Bool.and_true, Bool.true_and, Bool.or_false, Bool.false_or, Bool.and_self, decide_true, decide_false, Bool.not_true, Bool.not_false, beq_dec, ble_dec, Nat.reduceAdd, Nat.reduceEqDiff, Nat.reduceEqDiff, d2, d3, d4, d5, e3, e4, strOf_size]
          by_cases c3 : 3 < bs.length - i
          · have d4 : ¬ (((i + 4 : Nat) : Int) > (bs.length : Int)) := by omega
            rw [if_pos c3]
            simp only [d4, decide_false, br_false]
            rw [show (V.int .i64 4) = V.int .i64 ((4 : Nat) : Int) from rfl, show (V.int .i64 65536) = V.int .i64 ((65536 : Nat) : Int) from rfl, show (V.int .i64 1) = V.int .i64 ((1 : Nat) : Int) from rfl,
              sign_step (by omega) (by omega) hb (by omega)]
            by_cases c4 : 128 ≤ bAt bs (i + 1) ∧ bAt bs (i + 1) ≤ 191
            · have hl1 := bAt_lt bs (i + 1)
              rw [if_pos c4, if_pos c4, sign_step (by omega) (by omega) hb (by omega)]
              by_cases c4' : 128 ≤ bAt bs (i + 2) ∧ bAt bs (i + 2) ≤ 191
              · have hl2 := bAt_lt bs (i + 2)
                have hl2' : bAt bs (i + (1 + 1)) < 256 := bAt_lt bs (i + (1 + 1))
                rw [if_pos c4', if_pos c4', sign_step (by omega) (by omega) hb (by omega)]
                by_cases c4'' : 128 ≤ bAt bs (i + 3) ∧ bAt bs (i + 3) ≤ 191
                · rw [if_pos c4'', if_pos c4'', sign_last]
                  generalize hv : (((bAt bs i - 240) * 64 + bAt bs (i + 1) - 128) * 64 + bAt bs (i + 2) - 128) * 64 + bAt bs (i + 3) - 128 = v
                  simp only [joinP_eq, br_true, br_false, req_true, look_cons, look_nil, reduceIte, reduceCtorEq, T_val_v, isKT_k, isKT_agg, isKT_lp, isLK_c, locCells_c, nthV_zero, nthV_one, nthV_two, vals_tuple, aggCells_agg, isAgg_agg, getInt_int, getBool_bool, getStr_str, getPtr_ptr, slPtr_slice, slLen_slice, slCap_slice, isK_int, isK_bool, isK_str, isK_ptr, isK_slice, isTuple_tuple, List.length_cons, List.length_nil, Bool.and_true, Bool.true_and, Bool.or_false, Bool.false_or, Bool.and_self, decide_true, decide_false, Bool.not_true, Bool.not_false, beq_dec, ble_dec, Nat.reduceAdd, Nat.reduceEqDiff, Nat.reduceEqDiff]
                  by_cases c5 : v < 65536
                  · have d5 : (v : Int) < ((65536 : Nat) : Int) := by omega
                    rw [if_pos (Or.inl c5)]
                    simp only [d5, joinP_eq, br_true, br_false, req_true, look_cons, look_nil, reduceIte, reduceCtorEq, T_val_v, isKT_k, isKT_agg, isKT_lp, isLK_c, locCells_c, nthV_zero, nthV_one, nthV_two, vals_tuple, aggCells_agg, isAgg_agg, getInt_int, getBool_bool, getStr_str, getPtr_ptr, slPtr_slice, slLen_slice, slCap_slice, isK_int, isK_bool, isK_str, isK_ptr, isK_slice, isTuple_tuple, List.length_cons, List.length_nil, Bool.and_true, Bool.true_and, Bool.or_false, Bool.false_or, Bool.and_self, decide_true, decide_false, Bool.not_true, Bool.not_false, beq_dec, ble_dec, Nat.reduceAdd, Nat.reduceEqDiff, Nat.reduceEqDiff, cond_false]
                    all_goals rfl
                  · have d5 : ¬ (v : Int) < ((65536 : Nat) : Int) := by omega
                    by_cases c6 : v > 1114111
                    · have d6 : (v : Int) > 1114111 := by omega
                      rw [if_pos (Or.inr c6)]
                      simp only [d5, d6, joinP_eq, br_true, br_false, req_true, look_cons, look_nil, reduceIte, reduceCtorEq, T_val_v, isKT_k, isKT_agg, isKT_lp, isLK_c, locCells_c, nthV_zero, nthV_one, nthV_two, vals_tuple, aggCells_agg, isAgg_agg, getInt_int, getBool_bool, getStr_str, getPtr_ptr, slPtr_slice, slLen_slice, slCap_slice, isK_int, isK_bool, isK_str, isK_ptr, isK_slice, isTuple_tuple, List.length_cons, List.length_nil, Bool.and_true, Bool.true_and, Bool.or_false, Bool.false_or, Bool.and_self, decide_true, decide_false, Bool.not_true, Bool.not_false, beq_dec, ble_dec, Nat.reduceAdd, Nat.reduceEqDiff, Nat.reduceEqDiff, cond_true, cond_false]
                      all_goals rfl
                    · have d6 : ¬ (v : Int) > 1114111 := by omega
                      have d7 : (decide ((v : Int) ≥ 55296) && decide ((v : Int) < 57344)) = false := by simp; omega
                      rw [if_neg (by omega)]
                      simp only [d5, d6, d7, joinP_eq, br_true, br_false, req_true, look_cons, look_nil, reduceIte, reduceCtorEq, T_val_v, isKT_k, isKT_agg, isKT_lp, isLK_c, locCells_c, nthV_zero, nthV_one, nthV_two, vals_tuple, aggCells_agg, isAgg_agg, getInt_int, getBool_bool, getStr_str, getPtr_ptr, slPtr_slice, slLen_slice, slCap_slice, isK_int, isK_bool, isK_str, isK_ptr, isK_slice, isTuple_tuple, List.length_cons, List.length_nil, Bool.and_true, Bool.true_and, Bool.or_false, Bool.false_or, Bool.and_self, decide_true, decide_false, Bool.not_true, Bool.not_false, beq_dec, ble_dec, Nat.reduceAdd, Nat.reduceEqDiff, Nat.reduceEqDiff, cond_true]
                      all_goals rfl
                · rw [if_neg c4'', if_neg c4'']
                  simp only [joinP_eq, br_true, br_false, req_true, look_cons, look_nil, reduceIte, reduceCtorEq, T_val_v, isKT_k, isKT_agg, isKT_lp, isLK_c, locCells_c, nthV_zero, nthV_one, nthV_two, vals_tuple, aggCells_agg, isAgg_agg, getInt_int, getBool_bool, getStr_str, getPtr_ptr, slPtr_slice, slLen_slice, slCap_slice, isK_int, isK_bool, isK_str, isK_ptr, isK_slice, isTuple_tuple, List.length_cons, List.length_nil, Bool.and_true, Bool.true_and, Bool.or_false, Bool.false_or, Bool.and_self, decide_true, decide_false, Bool.not_true, Bool.not_false, beq_dec, ble_dec, Nat.reduceAdd, Nat.reduceEqDiff, Nat.reduceEqDiff]
                  all_goals rfl
              · rw [if_neg c4', if_neg c4']
                simp only [joinP_eq, br_true, br_false, req_true, look_cons, look_nil, reduceIte, reduceCtorEq, T_val_v, isKT_k, isKT_agg, isKT_lp, isLK_c, locCells_c, nthV_zero, nthV_one, nthV_two, vals_tuple, aggCells_agg, isAgg_agg, getInt_int, getBool_bool, getStr_str, getPtr_ptr, slPtr_slice, slLen_slice, slCap_slice, isK_int, isK_bool, isK_str, isK_ptr, isK_slice, isTuple_tuple, List.length_cons, List.length_nil, Bool.and_true, Bool.true_and, Bool.or_false, Bool.false_or, Bool.and_self, decide_true, decide_false, Bool.not_true, Bool.not_false, beq_dec, ble_dec, Nat.reduceAdd, Nat.reduceEqDiff, Nat.reduceEqDiff]
                all_goals rfl
            · rw [if_neg c4, if_neg c4]
              simp only [joinP_eq, br_true, br_false, req_true, look_cons, look_nil, reduceIte, reduceCtorEq, T_val_v, isKT_k, isKT_agg, isKT_lp, isLK_c, locCells_c, nthV_zero, nthV_one, nthV_two, vals_tuple, aggCells_agg, isAgg_agg, getInt_int, getBool_bool, getStr_str, getPtr_ptr, slPtr_slice, slLen_slice, slCap_slice, isK_int, isK_bool, isK_str, isK_ptr, isK_slice, isTuple_tuple, List.length_cons, List.length_nil, Bool.and_true, Bool.true_and, Bool.or_false, Bool.false_or, Bool.and_self, decide_true, decide_false, Bool.not_true, Bool.not_false, beq_dec, ble_dec, Nat.reduceAdd, Nat.reduceEqDiff, Nat.reduceEqDiff]
              all_goals rfl
          · have d4 : (((i + 4 : Nat) : Int) > (bs.length : Int)) := by omega
            rw [if_neg c3]
            simp only [d4, decide_true, br_true]
            all_goals rfl
        · rw [if_neg c4]
          have d4 : (decide ((bAt bs i : Int) ≥ 240) && decide ((bAt bs i : Int) < 248)) = false := by simp; omega
          simp only [d2, d3, d4, joinP_eq, br_true, br_false, req_true, look_cons, look_nil, reduceIte, reduceCtorEq, T_val_v, isKT_k, isKT_agg, isKT_lp, isLK_c, locCells_c, nthV_zero, nthV_one, nthV_two, vals_tuple, aggCells_agg, isAgg_agg, getInt_int, getBool_bool, getStr_str, getPtr_ptr, slPtr_slice, slLen_slice, slCap_slice, isK_int, isK_bool, isK_str, isK_ptr, isK_slice, isTuple_tuple, List.length_cons, List.length_nil, Bool.and_true, Bool.true_and, Bool.or_false, Bool.false_or, Bool.and_self, decide_true, decide_false, Bool.not_true, Bool.not_false, beq_dec, ble_dec, Nat.reduceAdd, Nat.reduceEqDiff, Nat.reduceEqDiff]
          all_goals rfl
end
end Go.Proofs.Ytibkggbidojocaa
