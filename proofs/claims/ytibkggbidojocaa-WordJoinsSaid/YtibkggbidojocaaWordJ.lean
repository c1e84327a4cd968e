/- The document's words of a line; the example. -/
import Derived.Test.YtibkggbidojocaaWordI
import Derived.Test.YtibkggbidojocaaAmIn
namespace Go.Proofs.Ytibkggbidojocaa
open Go.Am Go.Lib
set_option maxRecDepth 100000
set_option linter.unusedSimpArgs false
set_option linter.unusedVariables false
set_option linter.unusedSectionVars false

section
variable {B : Am.Heap} {L : List Ast} {H : Am.Heap} {K : V → Am.Heap → Prop} {bs : List UInt8}

theorem docw_loop (hb : bs.length ≤ 400) {R : Res} {Kr : St → Prop} {Ke : Nat → St → Prop}
    (hr : ∀ H' (i e : Nat), Sat B H' L → R = ([], i, e) → Kr (St.mk (Am.look [(2, T.v (V.slice none 0 0)), (3, T.v (V.int .i64 (i : Int))), (4, T.v (V.int .i64 (e : Int)))]) (Am.look []) H'))
    (he : ∀ H' q c (out : List (List UInt8)), Sat B H' (Rw 9 1 q c (out.map st) :: L) → R = (out, 0, 0) → Ke 0 (St.mk (Am.look [(5, T.v (V.slice q out.length c))]) (Am.look []) H')) :
    ∀ (f i : Nat) (out : List (List UInt8)) (H : Am.Heap) (q : Option (Nat × Nat)) (c : Nat), bs.length ≤ i + f → out.length ≤ i → Sat B H (Rw 9 1 q c (out.map st) :: L) → R = docW bs f i out →
    Am.Rec.loop (Am.Run env) (loopAt env 12 6) 12 6 (St.mk (Am.look [(0, T.v (V.str (strOf bs))), (5, T.v (V.slice q out.length c)), (6, T.v (V.int .i64 (i : Int)))]) (Am.look []) H) Kr Ke
  | f, i, out, H, q, c, hf, hw, h, hR => by
    rw [lp12_6]
    by_cases hl : bs.length ≤ i
    · have h1 : ¬ ((i : Int) < ((strOf bs).size : Int)) := by rw [strOf_size]; omega
      have e : docW bs f i out = (out, 0, 0) := by
        cases f with
        | zero => rfl
        | succ f => unfold docW; rw [if_pos hl]
      simp only [h1, decide_false, br_false]
      exact he H q c out h (hR.trans e)
    · obtain ⟨f, rfl⟩ : ∃ g, f = g + 1 := ⟨f - 1, by omega⟩
      have hlt : i < bs.length := by omega
      have h1 : ((i : Int) < ((strOf bs).size : Int)) := by rw [strOf_size]; omega
      have hle := sgn_le (drop_ne hlt)
      rw [List.length_drop] at hle
      simp only [h1, decide_true, br_true]
      rw [sp_sign hlt (by omega)]
      simp only [joinP_eq, br_true, br_false, req_true, look_cons, look_nil, reduceIte, reduceCtorEq, T_val_v, isKT_k, isKT_agg, isKT_lp, isLK_c, locCells_c, nthV_zero, nthV_one, nthV_two, vals_tuple, aggCells_agg, isAgg_agg, getInt_int, getBool_bool, getStr_str, getPtr_ptr, slPtr_slice, slLen_slice, slCap_slice, isK_int, isK_bool, isK_str, isK_ptr, isK_slice, isTuple_tuple, List.length_cons, List.length_nil, Bool.and_true, Bool.true_and, Bool.or_false, Bool.false_or, Bool.and_self, decide_true, decide_false, Bool.not_true, Bool.not_false, beq_dec, ble_dec, Nat.reduceAdd, Nat.reduceEqDiff, Nat.reduceEqDiff, sp_rblank]
      by_cases h0 : (sgn (bs.drop i)).1 = 0
      · have d0 : (((sgn (bs.drop i)).1 : Nat) : Int) = 0 := by omega
        have e : docW bs (f + 1) i out = ([], i, 14) := by unfold docW; rw [if_neg hl, if_pos h0]
        simp only [d0, decide_true, br_true]
        exact hr H i 14 h.drop (hR.trans e)
      · have d0 : ¬ (((sgn (bs.drop i)).1 : Nat) : Int) = 0 := by omega
        simp only [d0, decide_false, br_false]
        cases hbl : blankW (sgn (bs.drop i)).2 with
        | true =>
          have e : docW bs (f + 1) i out = docW bs f (i + (sgn (bs.drop i)).1) out := by
            conv => lhs; unfold docW
            rw [if_neg hl, if_neg h0, if_pos hbl]
          have e4 : IntKind.i64.wrap ((i : Int) + ((sgn (bs.drop i)).1 : Int)) = ((i + (sgn (bs.drop i)).1 : Nat) : Int) := by rw [wrap_in (by omega) (by omega)]; omega
          simp only [br_true, e4]
          exact docw_loop hb hr he f _ out H q c (by omega) (by omega) h (hR.trans e)
        | false =>
          have hbl' : ¬ blankW (sgn (bs.drop i)).2 = true := by rw [hbl]; decide
          have es : IntKind.i64.wrap ((i : Int) + 1) = ((i + 1 : Nat) : Int) := wrap_succ (by omega)
          simp only [br_false, es]
          by_cases h34 : (sgn (bs.drop i)).2 = 34
          · have d2 : (((sgn (bs.drop i)).2 : Nat) : Int) = 34 := by omega
            have e : docW bs (f + 1) i out = if (quotD bs bs.length (i + 1) []).2.2 = 0 then docW bs f (quotD bs bs.length (i + 1) []).2.1 (out ++ [(quotD bs bs.length (i + 1) []).1]) else ([], (quotD bs bs.length (i + 1) []).2.1, (quotD bs bs.length (i + 1) []).2.2) := by
              conv => lhs; unfold docW
              rw [if_neg hl, if_neg h0, if_neg hbl', if_pos h34]
            have hql := quotD_le bs.length (i + 1) ([] : List UInt8) (bs := bs) (by omega)
            simp only [d2, decide_true, br_true]
            rw [sp_quoted (by omega)]
            generalize quotD bs bs.length (i + 1) [] = x at e hql ⊢
            simp only [joinP_eq, br_true, br_false, req_true, look_cons, look_nil, reduceIte, reduceCtorEq, T_val_v, isKT_k, isKT_agg, isKT_lp, isLK_c, locCells_c, nthV_zero, nthV_one, nthV_two, vals_tuple, aggCells_agg, isAgg_agg, getInt_int, getBool_bool, getStr_str, getPtr_ptr, slPtr_slice, slLen_slice, slCap_slice, isK_int, isK_bool, isK_str, isK_ptr, isK_slice, isTuple_tuple, List.length_cons, List.length_nil, Bool.and_true, Bool.true_and, Bool.or_false, Bool.false_or, Bool.and_self, decide_true, decide_false, Bool.not_true, Bool.not_false, beq_dec, ble_dec, Nat.reduceAdd, Nat.reduceEqDiff, Nat.reduceEqDiff]
            by_cases hz : x.2.2 = 0
            · have d3 : ((x.2.2 : Nat) : Int) = 0 := by omega
              have hi' := hql hz
              rw [if_pos hz] at e
              simp only [d3, decide_true, Bool.not_true, br_false]
              refine app_strQ h (by omega) (fun q' c' H' h' => ?_)
              exact docw_loop hb hr he f _ _ H' q' c' (by omega) (by rw [List.length_append]; simp only [List.length_cons, List.length_nil]; omega) h' (hR.trans e)
            · have d3 : ¬ ((x.2.2 : Nat) : Int) = 0 := by omega
              rw [if_neg hz] at e
              simp only [d3, decide_false, Bool.not_false, br_true]
              exact hr H _ _ h.drop (hR.trans e)
          · have d2 : ¬ (((sgn (bs.drop i)).2 : Nat) : Int) = 34 := by omega
            have e : docW bs (f + 1) i out = if (bareD bs bs.length i []).2.2 = 0 then docW bs f (bareD bs bs.length i []).2.1 (out ++ [(bareD bs bs.length i []).1]) else ([], (bareD bs bs.length i []).2.1, (bareD bs bs.length i []).2.2) := by
              conv => lhs; unfold docW
              rw [if_neg hl, if_neg h0, if_neg hbl', if_neg h34]
            have hql : (bareD bs bs.length i []).2.2 = 0 → i < (bareD bs bs.length i []).2.1 := by
              obtain ⟨g, hg⟩ : ∃ g, bs.length = g + 1 := ⟨bs.length - 1, by omega⟩
              rw [hg]
              exact bareD_lt hlt h0 hbl
            simp only [d2, decide_false, br_false]
            rw [sp_bare (by omega)]
            generalize bareD bs bs.length i [] = x at e hql ⊢
            simp only [joinP_eq, br_true, br_false, req_true, look_cons, look_nil, reduceIte, reduceCtorEq, T_val_v, isKT_k, isKT_agg, isKT_lp, isLK_c, locCells_c, nthV_zero, nthV_one, nthV_two, vals_tuple, aggCells_agg, isAgg_agg, getInt_int, getBool_bool, getStr_str, getPtr_ptr, slPtr_slice, slLen_slice, slCap_slice, isK_int, isK_bool, isK_str, isK_ptr, isK_slice, isTuple_tuple, List.length_cons, List.length_nil, Bool.and_true, Bool.true_and, Bool.or_false, Bool.false_or, Bool.and_self, decide_true, decide_false, Bool.not_true, Bool.not_false, beq_dec, ble_dec, Nat.reduceAdd, Nat.reduceEqDiff, Nat.reduceEqDiff]
            by_cases hz : x.2.2 = 0
            · have d3 : ((x.2.2 : Nat) : Int) = 0 := by omega
              have hi' := hql hz
              rw [if_pos hz] at e
              simp only [d3, decide_true, Bool.not_true, br_false]
              refine app_strQ h (by omega) (fun q' c' H' h' => ?_)
              exact docw_loop hb hr he f _ _ H' q' c' (by omega) (by rw [List.length_append]; simp only [List.length_cons, List.length_nil]; omega) h' (hR.trans e)
            · have d3 : ¬ ((x.2.2 : Nat) : Int) = 0 := by omega
              rw [if_neg hz] at e
              simp only [d3, decide_false, Bool.not_false, br_true]
              exact hr H _ _ h.drop (hR.trans e)

theorem sp_rWords (h : Sat B H L)
    (k : ∀ q c H', Sat B H' (Rw 9 1 q c ((wordsW bs).1.map st) :: L) → K (.tuple [.slice q (wordsW bs).1.length c, .int .i64 ((wordsW bs).2.1 : Int), .int .i64 ((wordsW bs).2.2 : Int)]) H') :
    Am.Rec.call (Am.Run env) 12 [.str (strOf bs)] H K := by
  rw [← wordsD_eq] at k
  rw [eq12]
  by_cases hbig : bs.length > 400
  · have d1 : (((strOf bs).size : Nat) : Int) > 400 := by rw [strOf_size]; omega
    have e : wordsD bs = ([], 400, 2) := by unfold wordsD; rw [if_pos hbig]
    rw [e] at k
    simp only [d1, decide_true, br_true]
    exact k none 0 H (h.rwNil _ _)
  · have d1 : ¬ (((strOf bs).size : Nat) : Int) > 400 := by rw [strOf_size]; omega
    have e : wordsD bs = docW bs bs.length 0 [] := by unfold wordsD; rw [if_neg hbig]
    simp only [d1, decide_false, br_false]
    refine docw_loop (R := wordsD bs) (by omega) ?_ ?_ bs.length 0 [] H none 0 (by omega) (Nat.le_refl _) (h.rwNil _ _) e
    · intro H' i e' hs hR
      simp only [joinP_eq, br_true, br_false, req_true, look_cons, look_nil, reduceIte, reduceCtorEq, T_val_v, isKT_k, isKT_agg, isKT_lp, isLK_c, locCells_c, nthV_zero, nthV_one, nthV_two, vals_tuple, aggCells_agg, isAgg_agg, getInt_int, getBool_bool, getStr_str, getPtr_ptr, slPtr_slice, slLen_slice, slCap_slice, isK_int, isK_bool, isK_str, isK_ptr, isK_slice, isTuple_tuple, List.length_cons, List.length_nil, Bool.and_true, Bool.true_and, Bool.or_false, Bool.false_or, Bool.and_self, decide_true, decide_false, Bool.not_true, Bool.not_false, beq_dec, ble_dec, Nat.reduceAdd, Nat.reduceEqDiff, Nat.reduceEqDiff]
      rw [hR] at k
      exact k none 0 H' (hs.rwNil _ _)
    · intro H' q c out hs hR
      simp only [joinP_eq, br_true, br_false, req_true, look_cons, look_nil, reduceIte, reduceCtorEq, T_val_v, isKT_k, isKT_agg, isKT_lp, isLK_c, locCells_c, nthV_zero, nthV_one, nthV_two, vals_tuple, aggCells_agg, isAgg_agg, getInt_int, getBool_bool, getStr_str, getPtr_ptr, slPtr_slice, slLen_slice, slCap_slice, isK_int, isK_bool, isK_str, isK_ptr, isK_slice, isTuple_tuple, List.length_cons, List.length_nil, Bool.and_true, Bool.true_and, Bool.or_false, Bool.false_or, Bool.and_self, decide_true, decide_false, Bool.not_true, Bool.not_false, beq_dec, ble_dec, Nat.reduceAdd, Nat.reduceEqDiff, Nat.reduceEqDiff]
      rw [hR] at k
      exact k q c H' hs

theorem words_lit : wordsW [119, 114, 105, 116, 101, 32, 51, 32, 34, 97, 32, 98, 34] = ([[119, 114, 105, 116, 101], [51], [97, 32, 98]], 0, 0) := by decide +kernel

theorem finW_len (i : Nat) (σ : Wd) : (finW i σ).1.length ≤ σ.ws.length + 1 := by
  unfold finW
  split
  · exact Nat.zero_le _
  · exact (endW_len σ).1

theorem runW_len : ∀ (f i : Nat) (σ : Wd), (runW bs f i σ).1.length ≤ σ.ws.length + f + 1
  | 0, i, σ => finW_len i σ
  | f + 1, i, σ => by
    unfold runW
    split
    · have := finW_len i σ; omega
    · split
      · exact Nat.zero_le _
      · split
        · rename_i hz
          have h1 := runW_len f (i + (sgn (bs.drop i)).1) (stepW (sgn (bs.drop i)).2 σ).2
          have h2 := (stepW_ok hz).1
          omega
        · exact Nat.zero_le _

theorem wordsW_len (bs : List UInt8) : (wordsW bs).1.length ≤ 401 := by
  unfold wordsW
  split
  · exact Nat.zero_le _
  · have := runW_len (bs := bs) bs.length 0 w0
    have e : w0.ws.length = 0 := rfl
    omega

/-- The document's example. -/
theorem sp_awake (h : Sat B H L) (k : ∀ H', Sat B H' L → K (.bool true) H') : Am.Rec.call (Am.Run env) 10 [] H K := by
  rw [eq10]
  refine sp_Words h (fun q c H' h' => ?_)
  rw [words_lit] at h' ⊢
  obtain ⟨a1, a2, a3⟩ := rd_cell h'.rwRd (st_uni _) (i := 2) (k := 0) (by decide) (by omega)
  have a4 : nthV (([[119, 114, 105, 116, 101], [51], [97, 32, 98]] : List (List UInt8)).map st)[2] 0 = .str (strOf [97, 32, 98]) := rfl
  rw [a4] at a3
  simp only [Nat.add_zero, Nat.mul_one] at a2 a3
  have d1 : (((3 : Nat) : Int) = 3) := rfl
  have d2 : ((2 : Int) < ((3 : Nat) : Int)) := by omega
  have d3 : (((0 : Nat) : Int) = 0) := rfl
  simp only [joinP_eq, br_true, br_false, req_true, look_cons, look_nil, reduceIte, reduceCtorEq, T_val_v, isKT_k, isKT_agg, isKT_lp, isLK_c, locCells_c, nthV_zero, nthV_one, nthV_two, vals_tuple, aggCells_agg, isAgg_agg, getInt_int, getBool_bool, getStr_str, getPtr_ptr, slPtr_slice, slLen_slice, slCap_slice, isK_int, isK_bool, isK_str, isK_ptr, isK_slice, isTuple_tuple, List.length_cons, List.length_nil, Bool.and_true, Bool.true_and, Bool.or_false, Bool.false_or, Bool.and_self, decide_true, decide_false, Bool.not_true, Bool.not_false, beq_dec, ble_dec, Nat.reduceAdd, Nat.reduceEqDiff, Nat.reduceEqDiff, a1, a2, a3, d1, d2, d3, strEq_of, mergeR_ite, Bool.true_or]
  exact k H' h'.drop

/-! ### the laws -/

theorem law_WordWords (h : Sat B H L) (x0 : ByteArray) (l0 : x0.size ≤ maxLen) : Am.Rec.call (Am.Run env) 3 [.str x0] H fun v _ => v = .bool true := by
  rw [eq3]
  refine sp_awake h (fun H1 h1 => ?_)
  simp only [joinP_eq, br_true, br_false, req_true, look_cons, look_nil, reduceIte, reduceCtorEq, T_val_v, isKT_k, isKT_agg, isKT_lp, isLK_c, locCells_c, nthV_zero, nthV_one, nthV_two, vals_tuple, aggCells_agg, isAgg_agg, getInt_int, getBool_bool, getStr_str, getPtr_ptr, slPtr_slice, slLen_slice, slCap_slice, isK_int, isK_bool, isK_str, isK_ptr, isK_slice, isTuple_tuple, List.length_cons, List.length_nil, Bool.and_true, Bool.true_and, Bool.or_false, Bool.false_or, Bool.and_self, decide_true, decide_false, Bool.not_true, Bool.not_false, beq_dec, ble_dec, Nat.reduceAdd, Nat.reduceEqDiff, Nat.reduceEqDiff]
  have e0 : x0 = strOf (bytesOf x0) := (strOf_bytesOf x0).symm
  rw [e0]
  refine sp_Words h1 (fun q1 c1 H2 h2 => ?_)
  simp only [joinP_eq, br_true, br_false, req_true, look_cons, look_nil, reduceIte, reduceCtorEq, T_val_v, isKT_k, isKT_agg, isKT_lp, isLK_c, locCells_c, nthV_zero, nthV_one, nthV_two, vals_tuple, aggCells_agg, isAgg_agg, getInt_int, getBool_bool, getStr_str, getPtr_ptr, slPtr_slice, slLen_slice, slCap_slice, isK_int, isK_bool, isK_str, isK_ptr, isK_slice, isTuple_tuple, List.length_cons, List.length_nil, Bool.and_true, Bool.true_and, Bool.or_false, Bool.false_or, Bool.and_self, decide_true, decide_false, Bool.not_true, Bool.not_false, beq_dec, ble_dec, Nat.reduceAdd, Nat.reduceEqDiff, Nat.reduceEqDiff]
  refine sp_rWords h2 (fun q2 c2 H3 h3 => ?_)
  have hl : (wordsW (bytesOf x0)).1.length ≤ 100000 := by have := wordsW_len (bytesOf x0); omega
  have r2 := h3.rwRd
  have r1 := h3.drop.rwRd
  simp only [joinP_eq, br_true, br_false, req_true, look_cons, look_nil, reduceIte, reduceCtorEq, T_val_v, isKT_k, isKT_agg, isKT_lp, isLK_c, locCells_c, nthV_zero, nthV_one, nthV_two, vals_tuple, aggCells_agg, isAgg_agg, getInt_int, getBool_bool, getStr_str, getPtr_ptr, slPtr_slice, slLen_slice, slCap_slice, isK_int, isK_bool, isK_str, isK_ptr, isK_slice, isTuple_tuple, List.length_cons, List.length_nil, Bool.and_true, Bool.true_and, Bool.or_false, Bool.false_or, Bool.and_self, decide_true, decide_false, Bool.not_true, Bool.not_false, beq_dec, ble_dec, Nat.reduceAdd, Nat.reduceEqDiff, Nat.reduceEqDiff]
  rw [sp_same r1 r2 hl]
  simp only [joinP_eq, br_true, br_false, req_true, look_cons, look_nil, reduceIte, reduceCtorEq, T_val_v, isKT_k, isKT_agg, isKT_lp, isLK_c, locCells_c, nthV_zero, nthV_one, nthV_two, vals_tuple, aggCells_agg, isAgg_agg, getInt_int, getBool_bool, getStr_str, getPtr_ptr, slPtr_slice, slLen_slice, slCap_slice, isK_int, isK_bool, isK_str, isK_ptr, isK_slice, isTuple_tuple, List.length_cons, List.length_nil, Bool.and_true, Bool.true_and, Bool.or_false, Bool.false_or, Bool.and_self, decide_true, decide_false, Bool.not_true, Bool.not_false, beq_dec, ble_dec, Nat.reduceAdd, Nat.reduceEqDiff, Nat.reduceEqDiff]

theorem law_WordCounts (h : Sat B H L) (x0 : ByteArray) (l0 : x0.size ≤ maxLen) : Am.Rec.call (Am.Run env) 6 [.str x0] H fun v _ => v = .bool true := by
  rw [eq6]
  refine sp_awake h (fun H1 h1 => ?_)
  have e0 : x0 = strOf (bytesOf x0) := (strOf_bytesOf x0).symm
  rw [e0]
  simp only [joinP_eq, br_true, br_false, req_true, look_cons, look_nil, reduceIte, reduceCtorEq, T_val_v, isKT_k, isKT_agg, isKT_lp, isLK_c, locCells_c, nthV_zero, nthV_one, nthV_two, vals_tuple, aggCells_agg, isAgg_agg, getInt_int, getBool_bool, getStr_str, getPtr_ptr, slPtr_slice, slLen_slice, slCap_slice, isK_int, isK_bool, isK_str, isK_ptr, isK_slice, isTuple_tuple, List.length_cons, List.length_nil, Bool.and_true, Bool.true_and, Bool.or_false, Bool.false_or, Bool.and_self, decide_true, decide_false, Bool.not_true, Bool.not_false, beq_dec, ble_dec, Nat.reduceAdd, Nat.reduceEqDiff, Nat.reduceEqDiff, strOf_size]
  by_cases hb : (bytesOf x0).length > 2000
  · have d1 : ((bytesOf x0).length : Int) > 2000 := by omega
    simp only [d1, joinP_eq, br_true, br_false, req_true, look_cons, look_nil, reduceIte, reduceCtorEq, T_val_v, isKT_k, isKT_agg, isKT_lp, isLK_c, locCells_c, nthV_zero, nthV_one, nthV_two, vals_tuple, aggCells_agg, isAgg_agg, getInt_int, getBool_bool, getStr_str, getPtr_ptr, slPtr_slice, slLen_slice, slCap_slice, isK_int, isK_bool, isK_str, isK_ptr, isK_slice, isTuple_tuple, List.length_cons, List.length_nil, Bool.and_true, Bool.true_and, Bool.or_false, Bool.false_or, Bool.and_self, decide_true, decide_false, Bool.not_true, Bool.not_false, beq_dec, ble_dec, Nat.reduceAdd, Nat.reduceEqDiff, Nat.reduceEqDiff, cond_true]
    exact sp_awake h1 (fun H2 h2 => rfl)
  · have d1 : ¬ ((bytesOf x0).length : Int) > 2000 := by omega
    simp only [d1, joinP_eq, br_true, br_false, req_true, look_cons, look_nil, reduceIte, reduceCtorEq, T_val_v, isKT_k, isKT_agg, isKT_lp, isLK_c, locCells_c, nthV_zero, nthV_one, nthV_two, vals_tuple, aggCells_agg, isAgg_agg, getInt_int, getBool_bool, getStr_str, getPtr_ptr, slPtr_slice, slLen_slice, slCap_slice, isK_int, isK_bool, isK_str, isK_ptr, isK_slice, isTuple_tuple, List.length_cons, List.length_nil, Bool.and_true, Bool.true_and, Bool.or_false, Bool.false_or, Bool.and_self, decide_true, decide_false, Bool.not_true, Bool.not_false, beq_dec, ble_dec, Nat.reduceAdd, Nat.reduceEqDiff, Nat.reduceEqDiff, cond_true]
    rw [sp_Count (by omega)]
    simp only [joinP_eq, br_true, br_false, req_true, look_cons, look_nil, reduceIte, reduceCtorEq, T_val_v, isKT_k, isKT_agg, isKT_lp, isLK_c, locCells_c, nthV_zero, nthV_one, nthV_two, vals_tuple, aggCells_agg, isAgg_agg, getInt_int, getBool_bool, getStr_str, getPtr_ptr, slPtr_slice, slLen_slice, slCap_slice, isK_int, isK_bool, isK_str, isK_ptr, isK_slice, isTuple_tuple, List.length_cons, List.length_nil, Bool.and_true, Bool.true_and, Bool.or_false, Bool.false_or, Bool.and_self, decide_true, decide_false, Bool.not_true, Bool.not_false, beq_dec, ble_dec, Nat.reduceAdd, Nat.reduceEqDiff, Nat.reduceEqDiff]
    rw [sp_rCount (by omega)]
    simp only [joinP_eq, br_true, br_false, req_true, look_cons, look_nil, reduceIte, reduceCtorEq, T_val_v, isKT_k, isKT_agg, isKT_lp, isLK_c, locCells_c, nthV_zero, nthV_one, nthV_two, vals_tuple, aggCells_agg, isAgg_agg, getInt_int, getBool_bool, getStr_str, getPtr_ptr, slPtr_slice, slLen_slice, slCap_slice, isK_int, isK_bool, isK_str, isK_ptr, isK_slice, isTuple_tuple, List.length_cons, List.length_nil, Bool.and_true, Bool.true_and, Bool.or_false, Bool.false_or, Bool.and_self, decide_true, decide_false, Bool.not_true, Bool.not_false, beq_dec, ble_dec, Nat.reduceAdd, Nat.reduceEqDiff, Nat.reduceEqDiff]
end
end Go.Proofs.Ytibkggbidojocaa
