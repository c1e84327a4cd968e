/- The document's words; the example. -/
import Derived.Test.YtibkggbidojocaaWordH
namespace Go.Proofs.Ytibkggbidojocaa
open Go.Am Go.Lib
set_option maxRecDepth 100000
set_option linter.unusedSimpArgs false
set_option linter.unusedVariables false
set_option linter.unusedSectionVars false

/-- The part of a text that a sign is. -/
theorem take_sgn (bs : List UInt8) (i n : Nat) : ByteArray.extract (strOf bs) i (i + n) = strOf ((bs.drop i).take n) := by
  rw [ext_of, Nat.add_sub_cancel_left]

section
variable {H : Am.Heap} {K : V → Am.Heap → Prop} {bs : List UInt8}

theorem bare_loop (hb : bs.length ≤ 100000) {Kr : St → Prop} {Ke : Nat → St → Prop}
    (hr : ∀ (w : List UInt8) (i e : Nat), Kr (St.mk (Am.look [(4, T.v (V.str (strOf w))), (5, T.v (V.int .i64 (i : Int))), (6, T.v (V.int .i64 (e : Int)))]) (Am.look []) H) = K (.tuple [.str (strOf w), .int .i64 (i : Int), .int .i64 (e : Int)]) H)
    (he : ∀ (w : List UInt8) (i : Nat), Ke 0 (St.mk (Am.look [(1, T.v (V.int .i64 (i : Int))), (7, T.v (V.str (strOf w)))]) (Am.look []) H) = K (.tuple [.str (strOf w), .int .i64 (i : Int), .int .i64 ((0 : Nat) : Int)]) H) :
    ∀ (f i : Nat) (w : List UInt8), bs.length ≤ i + f → w.length ≤ 200 →
    Am.Rec.loop (Am.Run env) (loopAt env 25 2) 25 2 (St.mk (Am.look [(0, T.v (V.str (strOf bs))), (1, T.v (V.int .i64 (i : Int))), (7, T.v (V.str (strOf w)))]) (Am.look []) H) Kr Ke =
      K (.tuple [.str (strOf (bareD bs f i w).1), .int .i64 ((bareD bs f i w).2.1 : Int), .int .i64 ((bareD bs f i w).2.2 : Int)]) H
  | f, i, w, hf, hw => by
    rw [lp25_2]
    by_cases hl : bs.length ≤ i
    · have h1 : ¬ ((i : Int) < ((strOf bs).size : Int)) := by rw [strOf_size]; omega
      have e : bareD bs f i w = (w, i, 0) := by
        cases f with
        | zero => rfl
        | succ f => unfold bareD; rw [if_pos hl]
      simp only [h1, decide_false, br_false]
      rw [he, e]
    · obtain ⟨f, rfl⟩ : ∃ g, f = g + 1 := ⟨f - 1, by omega⟩
      have hlt : i < bs.length := by omega
      have h1 : ((i : Int) < ((strOf bs).size : Int)) := by rw [strOf_size]; omega
      have hle := sgn_le (drop_ne hlt)
      rw [List.length_drop] at hle
      simp only [h1, decide_true, br_true]
      rw [sp_sign hlt (by omega)]
      simp only [joinP_eq, br_true, br_false, req_true, look_cons, look_nil, reduceIte, reduceCtorEq, T_val_v, isKT_k, isKT_agg, isKT_lp, isLK_c, locCells_c, nthV_zero, nthV_one, nthV_two, vals_tuple, aggCells_agg, isAgg_agg, getInt_int, getBool_bool, getStr_str, getPtr_ptr, slPtr_slice, slLen_slice, slCap_slice, isK_int, isK_bool, isK_str, isK_ptr, isK_slice, isTuple_tuple, List.length_cons, List.length_nil, Bool.and_true, Bool.true_and, Bool.or_false, Bool.false_or, Bool.and_self, decide_true, decide_false, Bool.not_true, Bool.not_false, beq_dec, ble_dec, Nat.reduceAdd, Nat.reduceEqDiff, Nat.reduceEqDiff, sp_rblank]
      by_cases h0 : (sgn (bs.drop i)).1 = 0
      · have d0 : (((sgn (bs.drop i)).1 : Nat) : Int) = 0 := by omega
        have d1 : ¬ ((0 : Int) > 0) := by omega
        have e : bareD bs (f + 1) i w = ([], i, 14) := by unfold bareD; rw [if_neg hl, if_neg (by omega), if_pos (Or.inl h0)]
        simp only [d0, d1, joinP_eq, br_true, br_false, req_true, look_cons, look_nil, reduceIte, reduceCtorEq, T_val_v, isKT_k, isKT_agg, isKT_lp, isLK_c, locCells_c, nthV_zero, nthV_one, nthV_two, vals_tuple, aggCells_agg, isAgg_agg, getInt_int, getBool_bool, getStr_str, getPtr_ptr, slPtr_slice, slLen_slice, slCap_slice, isK_int, isK_bool, isK_str, isK_ptr, isK_slice, isTuple_tuple, List.length_cons, List.length_nil, Bool.and_true, Bool.true_and, Bool.or_false, Bool.false_or, Bool.and_self, decide_true, decide_false, Bool.not_true, Bool.not_false, beq_dec, ble_dec, Nat.reduceAdd, Nat.reduceEqDiff, Nat.reduceEqDiff, cond_false]
        rw [e]
        exact hr [] i 14
      · have d0 : ¬ (((sgn (bs.drop i)).1 : Nat) : Int) = 0 := by omega
        have d1 : (((sgn (bs.drop i)).1 : Nat) : Int) > 0 := by omega
        simp only [d1, joinP_eq, br_true, br_false, req_true, look_cons, look_nil, reduceIte, reduceCtorEq, T_val_v, isKT_k, isKT_agg, isKT_lp, isLK_c, locCells_c, nthV_zero, nthV_one, nthV_two, vals_tuple, aggCells_agg, isAgg_agg, getInt_int, getBool_bool, getStr_str, getPtr_ptr, slPtr_slice, slLen_slice, slCap_slice, isK_int, isK_bool, isK_str, isK_ptr, isK_slice, isTuple_tuple, List.length_cons, List.length_nil, Bool.and_true, Bool.true_and, Bool.or_false, Bool.false_or, Bool.and_self, decide_true, decide_false, Bool.not_true, Bool.not_false, beq_dec, ble_dec, Nat.reduceAdd, Nat.reduceEqDiff, Nat.reduceEqDiff]
        cases hbl : blankW (sgn (bs.drop i)).2 with
        | true =>
          have e : bareD bs (f + 1) i w = (w, i, 0) := by unfold bareD; rw [if_neg hl, if_pos ⟨by omega, hbl⟩]
          simp only [br_true]
          rw [he, e]
        | false =>
          have hnb : ¬ ((sgn (bs.drop i)).1 > 0 ∧ blankW (sgn (bs.drop i)).2 = true) := by rw [hbl]; rintro ⟨_, h⟩; cases h
          simp only [br_false]
          by_cases hq : (sgn (bs.drop i)).2 < 32 ∨ (sgn (bs.drop i)).2 = 34 ∨ (sgn (bs.drop i)).2 = 127
          · have e : bareD bs (f + 1) i w = ([], i, 14) := by unfold bareD; rw [if_neg hl, if_neg hnb, if_pos (Or.inr hq)]
            rw [e]
            by_cases q1 : (((sgn (bs.drop i)).2 : Nat) : Int) < 32
            · simp only [d0, q1, decide_false, decide_true, Bool.not_false, Bool.not_true, cond_true, cond_false, br_true]
              exact hr [] i 14
            · by_cases q2 : (((sgn (bs.drop i)).2 : Nat) : Int) = 34
              · have q1' : ¬ ((34 : Int) < 32) := by omega
                simp only [d0, q1', q2, decide_false, decide_true, Bool.not_false, Bool.not_true, cond_true, cond_false, br_true]
                exact hr [] i 14
              · have q3 : (((sgn (bs.drop i)).2 : Nat) : Int) = 127 := by omega
                have q1' : ¬ ((127 : Int) < 32) := by omega
                have q2' : ¬ ((127 : Int) = 34) := by omega
                simp only [d0, q1', q2', q3, decide_false, decide_true, Bool.not_false, Bool.not_true, cond_true, cond_false, br_true]
                exact hr [] i 14
          · have hq' : ¬ ((sgn (bs.drop i)).1 = 0 ∨ (sgn (bs.drop i)).2 < 32 ∨ (sgn (bs.drop i)).2 = 34 ∨ (sgn (bs.drop i)).2 = 127) := by omega
            have q1 : ¬ (((sgn (bs.drop i)).2 : Nat) : Int) < 32 := by omega
            have q2 : ¬ (((sgn (bs.drop i)).2 : Nat) : Int) = 34 := by omega
            have q3 : ¬ (((sgn (bs.drop i)).2 : Nat) : Int) = 127 := by omega
            have e4 : IntKind.i64.wrap ((i : Int) + ((sgn (bs.drop i)).1 : Int)) = ((i + (sgn (bs.drop i)).1 : Nat) : Int) := by rw [wrap_in (by omega) (by omega)]; omega
            have g1 : (0 : Int) ≤ ((i + (sgn (bs.drop i)).1 : Nat) : Int) := by omega
            have g2 : ((i + (sgn (bs.drop i)).1 : Nat) : Int) ≤ (bs.length : Int) := by omega
            have g3 : (0 : Int) ≤ (i : Int) := by omega
            have g4 : (i : Int) ≤ ((i + (sgn (bs.drop i)).1 : Nat) : Int) := by omega
            have hlen : ((bs.drop i).take (sgn (bs.drop i)).1).length ≤ 4 := by
              have := @sgn_small (bs.drop i)
              rw [List.length_take]; omega
            simp only [d0, q1, q2, q3, decide_false, Bool.not_false, cond_true, br_false, e4, Int.toNat_natCast, g1, g2, g3, g4, decide_true, Bool.and_self, req_true, take_sgn, join_of, joinOk_of (show w.length + ((bs.drop i).take (sgn (bs.drop i)).1).length ≤ 1000000000 by omega), strOf_size]
            by_cases hbig : (w ++ (bs.drop i).take (sgn (bs.drop i)).1).length > 200
            · have e : bareD bs (f + 1) i w = ([], i, 2) := by unfold bareD; rw [if_neg hl, if_neg hnb, if_neg hq', if_pos hbig]
              have d5 : ((w ++ (bs.drop i).take (sgn (bs.drop i)).1).length : Int) > 200 := by omega
              simp only [d5, decide_true, br_true]
              rw [e]
              exact hr [] i 2
            · have e : bareD bs (f + 1) i w = bareD bs f (i + (sgn (bs.drop i)).1) (w ++ (bs.drop i).take (sgn (bs.drop i)).1) := by
                conv => lhs; unfold bareD
                rw [if_neg hl, if_neg hnb, if_neg hq', if_neg hbig]
              have d5 : ¬ ((w ++ (bs.drop i).take (sgn (bs.drop i)).1).length : Int) > 200 := by omega
              simp only [d5, decide_false, br_false]
              rw [e]
              exact bare_loop hb hr he f _ _ (by omega) (by omega)

theorem sp_bare (hb : bs.length ≤ 100000) (i : Nat) : Am.Rec.call (Am.Run env) 25 [.str (strOf bs), .int .i64 (i : Int)] H K =
    K (.tuple [.str (strOf (bareD bs bs.length i []).1), .int .i64 ((bareD bs bs.length i []).2.1 : Int), .int .i64 ((bareD bs bs.length i []).2.2 : Int)]) H := by
  rw [eq25]
  exact bare_loop hb (fun w i e => by simp only [joinP_eq, br_true, br_false, req_true, look_cons, look_nil, reduceIte, reduceCtorEq, T_val_v, isKT_k, isKT_agg, isKT_lp, isLK_c, locCells_c, nthV_zero, nthV_one, nthV_two, vals_tuple, aggCells_agg, isAgg_agg, getInt_int, getBool_bool, getStr_str, getPtr_ptr, slPtr_slice, slLen_slice, slCap_slice, isK_int, isK_bool, isK_str, isK_ptr, isK_slice, isTuple_tuple, List.length_cons, List.length_nil, Bool.and_true, Bool.true_and, Bool.or_false, Bool.false_or, Bool.and_self, decide_true, decide_false, Bool.not_true, Bool.not_false, beq_dec, ble_dec, Nat.reduceAdd, Nat.reduceEqDiff, Nat.reduceEqDiff]) (fun w i => by simp only [joinP_eq, br_true, br_false, req_true, look_cons, look_nil, reduceIte, reduceCtorEq, T_val_v, isKT_k, isKT_agg, isKT_lp, isLK_c, locCells_c, nthV_zero, nthV_one, nthV_two, vals_tuple, aggCells_agg, isAgg_agg, getInt_int, getBool_bool, getStr_str, getPtr_ptr, slPtr_slice, slLen_slice, slCap_slice, isK_int, isK_bool, isK_str, isK_ptr, isK_slice, isTuple_tuple, List.length_cons, List.length_nil, Bool.and_true, Bool.true_and, Bool.or_false, Bool.false_or, Bool.and_self, decide_true, decide_false, Bool.not_true, Bool.not_false, beq_dec, ble_dec, Nat.reduceAdd, Nat.reduceEqDiff, Nat.reduceEqDiff]; rfl) bs.length i [] (by omega) (by simp)

theorem quot_loop (hb : bs.length ≤ 100000) {Kr : St → Prop} {Ke : Nat → St → Prop}
    (hr : ∀ (w : List UInt8) (i e : Nat), Kr (St.mk (Am.look [(4, T.v (V.str (strOf w))), (5, T.v (V.int .i64 (i : Int))), (6, T.v (V.int .i64 (e : Int)))]) (Am.look []) H) = K (.tuple [.str (strOf w), .int .i64 (i : Int), .int .i64 (e : Int)]) H)
    (he : Ke 0 (St.mk (Am.look [(0, T.v (V.str (strOf bs)))]) (Am.look []) H) = K (.tuple [.str (strOf []), .int .i64 (bs.length : Int), .int .i64 ((14 : Nat) : Int)]) H) :
    ∀ (f i : Nat) (w : List UInt8), bs.length ≤ i + f → w.length ≤ 200 →
    Am.Rec.loop (Am.Run env) (loopAt env 24 2) 24 2 (St.mk (Am.look [(0, T.v (V.str (strOf bs))), (1, T.v (V.int .i64 (i : Int))), (7, T.v (V.str (strOf w)))]) (Am.look []) H) Kr Ke =
      K (.tuple [.str (strOf (quotD bs f i w).1), .int .i64 ((quotD bs f i w).2.1 : Int), .int .i64 ((quotD bs f i w).2.2 : Int)]) H
  | f, i, w, hf, hw => by
    rw [lp24_2]
    by_cases hl : bs.length ≤ i
    · have h1 : ¬ ((i : Int) < ((strOf bs).size : Int)) := by rw [strOf_size]; omega
      have e : quotD bs f i w = ([], bs.length, 14) := by
        cases f with
        | zero => rfl
        | succ f => unfold quotD; rw [if_pos hl]
      simp only [h1, decide_false, br_false]
      rw [he, e]
    · obtain ⟨f, rfl⟩ : ∃ g, f = g + 1 := ⟨f - 1, by omega⟩
      have hlt : i < bs.length := by omega
      have h1 : ((i : Int) < ((strOf bs).size : Int)) := by rw [strOf_size]; omega
      have hle := sgn_le (drop_ne hlt)
      rw [List.length_drop] at hle
      simp only [h1, decide_true, br_true]
      rw [sp_sign hlt (by omega)]
      simp only [joinP_eq, br_true, br_false, req_true, look_cons, look_nil, reduceIte, reduceCtorEq, T_val_v, isKT_k, isKT_agg, isKT_lp, isLK_c, locCells_c, nthV_zero, nthV_one, nthV_two, vals_tuple, aggCells_agg, isAgg_agg, getInt_int, getBool_bool, getStr_str, getPtr_ptr, slPtr_slice, slLen_slice, slCap_slice, isK_int, isK_bool, isK_str, isK_ptr, isK_slice, isTuple_tuple, List.length_cons, List.length_nil, Bool.and_true, Bool.true_and, Bool.or_false, Bool.false_or, Bool.and_self, decide_true, decide_false, Bool.not_true, Bool.not_false, beq_dec, ble_dec, Nat.reduceAdd, Nat.reduceEqDiff, Nat.reduceEqDiff]
      by_cases hn : (sgn (bs.drop i)).1 = 0 ∨ (sgn (bs.drop i)).2 < 32
      · have e : quotD bs (f + 1) i w = ([], i, 14) := by unfold quotD; rw [if_neg hl, if_pos hn]
        rw [e]
        by_cases q1 : (((sgn (bs.drop i)).1 : Nat) : Int) = 0
        · simp only [q1, decide_true, Bool.not_true, cond_false, br_true]
          exact hr [] i 14
        · have q2 : (((sgn (bs.drop i)).2 : Nat) : Int) < 32 := by omega
          simp only [q1, q2, decide_true, decide_false, Bool.not_false, cond_true, br_true]
          exact hr [] i 14
      · have h0 : ¬ (sgn (bs.drop i)).1 = 0 := by omega
        have d0 : ¬ (((sgn (bs.drop i)).1 : Nat) : Int) = 0 := by omega
        have d1 : ¬ (((sgn (bs.drop i)).2 : Nat) : Int) < 32 := by omega
        have es : IntKind.i64.wrap ((i : Int) + 1) = ((i + 1 : Nat) : Int) := wrap_succ (by omega)
        simp only [d0, d1, decide_false, Bool.not_false, cond_true, br_false, es, strOf_size]
        by_cases h34 : (sgn (bs.drop i)).2 = 34
        · have d2 : (((sgn (bs.drop i)).2 : Nat) : Int) = 34 := by omega
          simp only [d2, decide_true, br_true]
          by_cases hl2 : bs.length ≤ i + 1
          · have e : quotD bs (f + 1) i w = (w, i + 1, 0) := by unfold quotD; rw [if_neg hl, if_neg hn, if_pos h34, if_pos hl2]
            have d3 : ¬ ((i + 1 : Nat) : Int) < (bs.length : Int) := by omega
            simp only [d3, decide_false, br_false, joinP_eq]
            rw [e]
            exact hr w (i + 1) 0
          · have d3 : ((i + 1 : Nat) : Int) < (bs.length : Int) := by omega
            simp only [d3, decide_true, br_true, joinP_eq]
            rw [sp_sign (by omega) (by omega)]
            simp only [joinP_eq, br_true, br_false, req_true, look_cons, look_nil, reduceIte, reduceCtorEq, T_val_v, isKT_k, isKT_agg, isKT_lp, isLK_c, locCells_c, nthV_zero, nthV_one, nthV_two, vals_tuple, aggCells_agg, isAgg_agg, getInt_int, getBool_bool, getStr_str, getPtr_ptr, slPtr_slice, slLen_slice, slCap_slice, isK_int, isK_bool, isK_str, isK_ptr, isK_slice, isTuple_tuple, List.length_cons, List.length_nil, Bool.and_true, Bool.true_and, Bool.or_false, Bool.false_or, Bool.and_self, decide_true, decide_false, Bool.not_true, Bool.not_false, beq_dec, ble_dec, Nat.reduceAdd, Nat.reduceEqDiff, Nat.reduceEqDiff, sp_rblank]
            by_cases h00 : (sgn (bs.drop (i + 1))).1 = 0
            · have e : quotD bs (f + 1) i w = ([], i + 1, 14) := by unfold quotD; rw [if_neg hl, if_neg hn, if_pos h34, if_neg hl2, if_pos (Or.inl h00)]
              have d4 : (((sgn (bs.drop (i + 1))).1 : Nat) : Int) = 0 := by omega
              simp only [d4, decide_true, Bool.not_true, br_false]
              rw [e]
              exact hr [] (i + 1) 14
            · have d4 : ¬ (((sgn (bs.drop (i + 1))).1 : Nat) : Int) = 0 := by omega
              simp only [d4, decide_false, Bool.not_false, br_true]
              cases hbl : blankW (sgn (bs.drop (i + 1))).2 with
              | true =>
                have e : quotD bs (f + 1) i w = (w, i + 1, 0) := by unfold quotD; rw [if_neg hl, if_neg hn, if_pos h34, if_neg hl2, if_neg (by rw [hbl]; rintro (h | h); exact h00 h; cases h)]
                simp only [Bool.not_true, br_false]
                rw [e]
                exact hr w (i + 1) 0
              | false =>
                have e : quotD bs (f + 1) i w = ([], i + 1, 14) := by unfold quotD; rw [if_neg hl, if_neg hn, if_pos h34, if_neg hl2, if_pos (Or.inr hbl)]
                simp only [Bool.not_false, br_true]
                rw [e]
                exact hr [] (i + 1) 14
        · have d2 : ¬ (((sgn (bs.drop i)).2 : Nat) : Int) = 34 := by omega
          simp only [d2, decide_false, br_false]
          by_cases h92 : (sgn (bs.drop i)).2 = 92
          · have d3 : (((sgn (bs.drop i)).2 : Nat) : Int) = 92 := by omega
            simp only [d3, decide_true, Bool.not_true, br_false]
            by_cases hl2 : bs.length ≤ i + 1
            · have e : quotD bs (f + 1) i w = ([], i + 1, 14) := by unfold quotD; rw [if_neg hl, if_neg hn, if_neg h34, if_pos h92, if_pos hl2]
              have d4 : ((i + 1 : Nat) : Int) = (bs.length : Int) := by omega
              simp only [d4, decide_true, br_true]
              rw [e, ← d4]
              exact hr [] (i + 1) 14
            · have d4 : ¬ ((i + 1 : Nat) : Int) = (bs.length : Int) := by omega
              simp only [d4, decide_false, br_false]
              rw [sp_sign (by omega) (by omega)]
              simp only [joinP_eq, br_true, br_false, req_true, look_cons, look_nil, reduceIte, reduceCtorEq, T_val_v, isKT_k, isKT_agg, isKT_lp, isLK_c, locCells_c, nthV_zero, nthV_one, nthV_two, vals_tuple, aggCells_agg, isAgg_agg, getInt_int, getBool_bool, getStr_str, getPtr_ptr, slPtr_slice, slLen_slice, slCap_slice, isK_int, isK_bool, isK_str, isK_ptr, isK_slice, isTuple_tuple, List.length_cons, List.length_nil, Bool.and_true, Bool.true_and, Bool.or_false, Bool.false_or, Bool.and_self, decide_true, decide_false, Bool.not_true, Bool.not_false, beq_dec, ble_dec, Nat.reduceAdd, Nat.reduceEqDiff, Nat.reduceEqDiff]
              by_cases h00 : (sgn (bs.drop (i + 1))).1 = 0
              · have e : quotD bs (f + 1) i w = ([], i + 1, 14) := by unfold quotD; rw [if_neg hl, if_neg hn, if_neg h34, if_pos h92, if_neg hl2, if_pos h00]
                have d5 : (((sgn (bs.drop (i + 1))).1 : Nat) : Int) = 0 := by omega
                simp only [d5, decide_true, br_true]
                rw [e]
                exact hr [] (i + 1) 14
              · have d5 : ¬ (((sgn (bs.drop (i + 1))).1 : Nat) : Int) = 0 := by omega
                have hle2 := sgn_le (drop_ne (show i + 1 < bs.length by omega))
                rw [List.length_drop] at hle2
                simp only [d5, decide_false, br_false]
                have e5 : IntKind.i64.wrap (((i + 1 : Nat) : Int) + ((sgn (bs.drop (i + 1))).1 : Int)) = ((i + 1 + (sgn (bs.drop (i + 1))).1 : Nat) : Int) := by rw [wrap_in (by omega) (by omega)]; omega
                -- a byte behind the mark
                have fin : ∀ b : UInt8, esc (sgn (bs.drop (i + 1))).2 = some b →
                    br (decide (((w ++ [b]).length : Int) > 200))
                      (Kr (St.mk (Am.look [(4, T.v (V.str (strOf []))), (5, T.v (V.int .i64 ((i + 1 : Nat) : Int))), (6, T.v (V.int .i64 2))]) (Am.look []) H))
                      (Am.Rec.loop (Am.Run env) (loopAt env 24 2) 24 2 (St.mk (Am.look [(0, T.v (V.str (strOf bs))), (1, T.v (V.int .i64 ((i + 1 + (sgn (bs.drop (i + 1))).1 : Nat) : Int))), (7, T.v (V.str (strOf (w ++ [b]))))]) (Am.look []) H) Kr Ke) =
                    K (.tuple [.str (strOf (quotD bs (f + 1) i w).1), .int .i64 ((quotD bs (f + 1) i w).2.1 : Int), .int .i64 ((quotD bs (f + 1) i w).2.2 : Int)]) H := by
                  intro b hesc
                  by_cases hbig : (w ++ [b]).length > 200
                  · have e : quotD bs (f + 1) i w = ([], i + 1, 2) := by
                      unfold quotD; rw [if_neg hl, if_neg hn, if_neg h34, if_pos h92, if_neg hl2, if_neg h00, hesc]
                      dsimp only
                      rw [if_pos hbig]
                    have d6 : ((w ++ [b]).length : Int) > 200 := by omega
                    simp only [d6, decide_true, br_true]
                    rw [e]
                    exact hr [] (i + 1) 2
                  · have e : quotD bs (f + 1) i w = quotD bs f (i + 1 + (sgn (bs.drop (i + 1))).1) (w ++ [b]) := by
                      conv => lhs; unfold quotD
                      rw [if_neg hl, if_neg hn, if_neg h34, if_pos h92, if_neg hl2, if_neg h00, hesc]
                      dsimp only
                      rw [if_neg hbig]
                    have d6 : ¬ ((w ++ [b]).length : Int) > 200 := by omega
                    simp only [d6, decide_false, br_false]
                    rw [e]
                    exact quot_loop hb hr he f _ _ (by omega) (by omega)
                have hj : ∀ b : UInt8, joinOk (strOf w) (strOf [b]) = true := fun b => joinOk_of (by simp; omega)
                by_cases q1 : (sgn (bs.drop (i + 1))).2 = 34 ∨ (sgn (bs.drop (i + 1))).2 = 92
                · have hone := sgn_one h00 (by omega)
                  have e6 : IntKind.i64.wrap (((i + 1 : Nat) : Int) + 1) = ((i + 1 + 1 : Nat) : Int) := wrap_succ (by omega)
                  have g1 : (0 : Int) ≤ ((i + 1 + 1 : Nat) : Int) := by omega
                  have g2 : ((i + 1 + 1 : Nat) : Int) ≤ (bs.length : Int) := by omega
                  have g3 : (0 : Int) ≤ ((i + 1 : Nat) : Int) := by omega
                  have g4 : ((i + 1 : Nat) : Int) ≤ ((i + 1 + 1 : Nat) : Int) := by omega
                  have hby : ∃ b : UInt8, (bs.drop (i + 1)).take 1 = [b] ∧ esc (sgn (bs.drop (i + 1))).2 = some b := by
                    have he1 := sgn_enc (drop_ne (show i + 1 < bs.length by omega)) h00
                    rw [hone] at he1
                    rcases q1 with q | q
                    · rw [q] at he1 ⊢; exact ⟨34, he1.symm.trans (by decide +kernel), rfl⟩
                    · rw [q] at he1 ⊢; exact ⟨92, he1.symm.trans (by decide +kernel), rfl⟩
                  obtain ⟨b, hb1, hb2⟩ := hby
                  have hf := fin b hb2
                  by_cases q : (((sgn (bs.drop (i + 1))).2 : Nat) : Int) = 34
                  · simp only [q, decide_true, Bool.not_true, cond_false, br_true, e6, Int.toNat_natCast, g1, g2, g3, g4, Bool.and_self, req_true, take_sgn, hb1, hj b, join_of, strOf_size, e5]
                    exact hf
                  · have q2 : (((sgn (bs.drop (i + 1))).2 : Nat) : Int) = 92 := by omega
                    have q' : ¬ ((92 : Int) = 34) := by omega
                    simp only [q2, q', decide_true, decide_false, Bool.not_false, cond_true, br_true, e6, Int.toNat_natCast, g1, g2, g3, g4, Bool.and_self, req_true, take_sgn, hb1, hj b, join_of, strOf_size, e5]
                    exact hf
                · have q2 : ¬ (((sgn (bs.drop (i + 1))).2 : Nat) : Int) = 34 := by omega
                  have q3 : ¬ (((sgn (bs.drop (i + 1))).2 : Nat) : Int) = 92 := by omega
                  simp only [q2, q3, decide_false, Bool.not_false, cond_true, br_false]
                  by_cases q4 : (sgn (bs.drop (i + 1))).2 = 110
                  · have d6 : (((sgn (bs.drop (i + 1))).2 : Nat) : Int) = 110 := by omega
                    have hf := fin 10 (by rw [q4]; rfl)
                    simp only [d6, decide_true, br_true, hj 10, req_true, join_of, strOf_size, e5]
                    exact hf
                  · have d6 : ¬ (((sgn (bs.drop (i + 1))).2 : Nat) : Int) = 110 := by omega
                    simp only [d6, decide_false, br_false]
                    by_cases q5 : (sgn (bs.drop (i + 1))).2 = 116
                    · have d7 : (((sgn (bs.drop (i + 1))).2 : Nat) : Int) = 116 := by omega
                      have hf := fin 9 (by rw [q5]; rfl)
                      simp only [d7, decide_true, br_true, hj 9, req_true, join_of, strOf_size, e5]
                      exact hf
                    · have d7 : ¬ (((sgn (bs.drop (i + 1))).2 : Nat) : Int) = 116 := by omega
                      have e : quotD bs (f + 1) i w = ([], i + 1, 14) := by
                        have hes : esc (sgn (bs.drop (i + 1))).2 = none := by unfold esc; rw [if_neg (by omega), if_neg (by omega), if_neg q4, if_neg q5]
                        unfold quotD; rw [if_neg hl, if_neg hn, if_neg h34, if_pos h92, if_neg hl2, if_neg h00, hes]
                      simp only [d7, decide_false, br_false]
                      rw [e]
                      exact hr [] (i + 1) 14
          · have d3 : ¬ (((sgn (bs.drop i)).2 : Nat) : Int) = 92 := by omega
            have e4 : IntKind.i64.wrap ((i : Int) + ((sgn (bs.drop i)).1 : Int)) = ((i + (sgn (bs.drop i)).1 : Nat) : Int) := by rw [wrap_in (by omega) (by omega)]; omega
            have g1 : (0 : Int) ≤ ((i + (sgn (bs.drop i)).1 : Nat) : Int) := by omega
            have g2 : ((i + (sgn (bs.drop i)).1 : Nat) : Int) ≤ (bs.length : Int) := by omega
            have g3 : (0 : Int) ≤ (i : Int) := by omega
            have g4 : (i : Int) ≤ ((i + (sgn (bs.drop i)).1 : Nat) : Int) := by omega
            have hlen : ((bs.drop i).take (sgn (bs.drop i)).1).length ≤ 4 := by
              have := @sgn_small (bs.drop i)
              rw [List.length_take]; omega
            simp only [d3, decide_false, Bool.not_false, br_true, e4, Int.toNat_natCast, g1, g2, g3, g4, decide_true, Bool.and_self, req_true, take_sgn, join_of, joinOk_of (show w.length + ((bs.drop i).take (sgn (bs.drop i)).1).length ≤ 1000000000 by omega), strOf_size]
            by_cases hbig : (w ++ (bs.drop i).take (sgn (bs.drop i)).1).length > 200
            · have e : quotD bs (f + 1) i w = ([], i, 2) := by unfold quotD; rw [if_neg hl, if_neg hn, if_neg h34, if_neg h92, if_pos hbig]
              have d5 : ((w ++ (bs.drop i).take (sgn (bs.drop i)).1).length : Int) > 200 := by omega
              simp only [d5, decide_true, br_true]
              rw [e]
              exact hr [] i 2
            · have e : quotD bs (f + 1) i w = quotD bs f (i + (sgn (bs.drop i)).1) (w ++ (bs.drop i).take (sgn (bs.drop i)).1) := by
                conv => lhs; unfold quotD
                rw [if_neg hl, if_neg hn, if_neg h34, if_neg h92, if_neg hbig]
              have d5 : ¬ ((w ++ (bs.drop i).take (sgn (bs.drop i)).1).length : Int) > 200 := by omega
              simp only [d5, decide_false, br_false]
              rw [e]
              exact quot_loop hb hr he f _ _ (by omega) (by omega)

theorem sp_quoted (hb : bs.length ≤ 100000) (i : Nat) : Am.Rec.call (Am.Run env) 24 [.str (strOf bs), .int .i64 (i : Int)] H K =
    K (.tuple [.str (strOf (quotD bs bs.length i []).1), .int .i64 ((quotD bs bs.length i []).2.1 : Int), .int .i64 ((quotD bs bs.length i []).2.2 : Int)]) H := by
  rw [eq24]
  exact quot_loop hb (fun w i e => by simp only [joinP_eq, br_true, br_false, req_true, look_cons, look_nil, reduceIte, reduceCtorEq, T_val_v, isKT_k, isKT_agg, isKT_lp, isLK_c, locCells_c, nthV_zero, nthV_one, nthV_two, vals_tuple, aggCells_agg, isAgg_agg, getInt_int, getBool_bool, getStr_str, getPtr_ptr, slPtr_slice, slLen_slice, slCap_slice, isK_int, isK_bool, isK_str, isK_ptr, isK_slice, isTuple_tuple, List.length_cons, List.length_nil, Bool.and_true, Bool.true_and, Bool.or_false, Bool.false_or, Bool.and_self, decide_true, decide_false, Bool.not_true, Bool.not_false, beq_dec, ble_dec, Nat.reduceAdd, Nat.reduceEqDiff, Nat.reduceEqDiff]) (by simp only [joinP_eq, br_true, br_false, req_true, look_cons, look_nil, reduceIte, reduceCtorEq, T_val_v, isKT_k, isKT_agg, isKT_lp, isLK_c, locCells_c, nthV_zero, nthV_one, nthV_two, vals_tuple, aggCells_agg, isAgg_agg, getInt_int, getBool_bool, getStr_str, getPtr_ptr, slPtr_slice, slLen_slice, slCap_slice, isK_int, isK_bool, isK_str, isK_ptr, isK_slice, isTuple_tuple, List.length_cons, List.length_nil, Bool.and_true, Bool.true_and, Bool.or_false, Bool.false_or, Bool.and_self, decide_true, decide_false, Bool.not_true, Bool.not_false, beq_dec, ble_dec, Nat.reduceAdd, Nat.reduceEqDiff, Nat.reduceEqDiff, strOf_size]; rfl) bs.length i [] (by omega) (by simp)
end
end Go.Proofs.Ytibkggbidojocaa
