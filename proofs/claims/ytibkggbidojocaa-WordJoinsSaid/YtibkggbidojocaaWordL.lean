/- The laws on single signs. -/
import Derived.Test.YtibkggbidojocaaWordK
namespace Go.Proofs.Ytibkggbidojocaa
open Go.Am Go.Lib
set_option maxRecDepth 100000
set_option linter.unusedSimpArgs false
set_option linter.unusedVariables false
set_option linter.unusedSectionVars false

theorem esc_all : ∀ n : Fin 256, decide ((wordsW ([34, 97, 92] ++ [UInt8.ofNat n.val] ++ [34])).2.2 = 0) = (decide (n.val = 92) || decide (n.val = 110) || decide (n.val = 116) || decide (n.val = 34)) := by decide +kernel

section
variable {B : Am.Heap} {L : List Ast} {H : Am.Heap} {K : V → Am.Heap → Prop}

theorem lit1 (h : Sat B H L) {x : Int} {c : UInt8} (hx : x = (c.toNat : Int)) : Sat B (H.alloc (.cells 5 [V.int .u8 x] false)) (BY (some (H.next, 0)) 1 [c] :: L) := by
  subst hx
  exact h.newBuf rfl (bcells_one [c]) (Nat.le_refl _) (by simp) rfl

/-- A row of texts that are written in the program. -/
theorem row_lit (h : Sat B H L) (l : List (List UInt8)) : Sat B (H.alloc (.cells 9 (l.map st).flatten false)) (Rw 9 1 (some (H.next, 0)) l.length (l.map st) :: L) := by
  have hl : (l.map st).flatten.length = l.length := by rw [flat_len (st_uni l)]; simp
  refine h.newBuf ?_ (flat_one (st_uni l)) ?_ ?_ ?_
  · rw [hl]; simp
  · simp
  · rw [hl]; simp
  · rw [List.take_of_length_le (by omega)]

theorem law_WordEscapes (h : Sat B H L) (x0 : Int) (hx0 : 0 ≤ x0) (hx1 : x0 ≤ 255) : Am.Rec.call (Am.Run env) 5 [.int .u8 x0] H fun v _ => v = .bool true := by
  obtain ⟨n, hn⟩ : ∃ n : Fin 256, (n.val : Int) = x0 := ⟨⟨x0.toNat, by omega⟩, by show (x0.toNat : Int) = x0; omega⟩
  have hc : x0 = ((UInt8.ofNat n.val).toNat : Int) := by
    rw [UInt8.toNat_ofNat', Nat.mod_eq_of_lt (by have := n.isLt; omega)]
    exact hn.symm
  have hes := esc_all n
  generalize hC : UInt8.ofNat n.val = c at hes hc
  rw [eq5]
  have h1 := lit1 h hc
  have s1 : strOk (H.alloc (.cells 5 [V.int .u8 x0] false)) (some (H.next, 0)) 1 = true := h1.bytRd.strOk
  have s2 : strAt (H.alloc (.cells 5 [V.int .u8 x0] false)) (some (H.next, 0)) 1 = strOf [c] := h1.bytRd.strAt
  have j1 : joinOk (strOf [34, 97, 92]) (strOf [c]) = true := joinOk_of (by simp)
  have j2 : joinOk (strOf ([34, 97, 92] ++ [c])) (strOf [34]) = true := joinOk_of (by simp)
  rw [s1, s2, join_of, join_of, j1, j2, req_true, req_true, req_true]
  refine sp_Words h1 (fun q1 c1 H2 h2 => ?_)
  simp only [isTuple_tuple, vals_tuple, nthV_zero, nthV_one, nthV_two, isK_slice, isK_int, List.length_cons, List.length_nil, Nat.reduceAdd, decide_true, Bool.and_self, Bool.or_false, req_true, slPtr_slice, slLen_slice, slCap_slice]
  have h3 := lit1 h2 hc
  have s3 : strOk (H2.alloc (.cells 5 [V.int .u8 x0] false)) (some (H2.next, 0)) 1 = true := h3.bytRd.strOk
  have s4 : strAt (H2.alloc (.cells 5 [V.int .u8 x0] false)) (some (H2.next, 0)) 1 = strOf [c] := h3.bytRd.strAt
  rw [s3, s4, join_of, join_of, j1, j2, req_true, req_true, req_true]
  refine sp_rWords h3 (fun q2 c2 H4 h4 => ?_)
  simp only [isTuple_tuple, vals_tuple, nthV_zero, nthV_one, nthV_two, isK_slice, isK_int, List.length_cons, List.length_nil, Nat.reduceAdd, decide_true, Bool.and_self, Bool.or_false, req_true, slPtr_slice, slLen_slice, slCap_slice]
  refine sp_awake h4 (fun H5 h5 => ?_)
  simp only [isK_bool, getBool_bool, req_true, br_true]
  have r2 := h5.rwRd
  have h6 := h5.up 2
  simp only [nthA, outA] at h6
  have r1 := h6.rwRd
  rw [sp_same r1 r2 (by have := wordsW_len ([34, 97, 92] ++ [c] ++ [34]); omega)]
  simp only [isK_bool, getBool_bool, getInt_int, req_true, br_true, decide_true]
  have hd : decide ((((wordsW ([34, 97, 92] ++ [c] ++ [34])).2.2 : Nat) : Int) = 0) = decide ((wordsW ([34, 97, 92] ++ [c] ++ [34])).2.2 = 0) := by
    rw [decide_eq_decide]; omega
  generalize (wordsW ([34, 97, 92] ++ [c] ++ [34])).2.2 = e at hes hd ⊢
  by_cases q1 : n.val = 92
  · have d1 : x0 = 92 := by omega
    have : e = 0 := by have := hes; simp [q1] at this; exact this
    subst this
    simp only [d1, decide_true, Bool.not_true, br_false]
    rfl
  · have d1 : ¬ x0 = 92 := by omega
    simp only [d1, decide_false, Bool.not_false, br_true]
    by_cases q2 : n.val = 110
    · have d2 : x0 = 110 := by omega
      have : e = 0 := by have := hes; simp [q2] at this; exact this
      subst this
      simp only [d2, decide_true, Bool.not_true, br_false]
      rfl
    · have d2 : ¬ x0 = 110 := by omega
      simp only [d2, decide_false, Bool.not_false, br_true]
      by_cases q3 : n.val = 116
      · have d3 : x0 = 116 := by omega
        have : e = 0 := by have := hes; simp [q3] at this; exact this
        subst this
        simp only [d3, decide_true, Bool.not_true, br_false]
        rfl
      · have d3 : ¬ x0 = 116 := by omega
        simp only [d3, decide_false, Bool.not_false, br_true]
        by_cases q4 : n.val = 34
        · have d4 : x0 = 34 := by omega
          have : e = 0 := by have := hes; simp [q4] at this; exact this
          subst this
          simp only [d4]
          rfl
        · have d4 : ¬ x0 = 34 := by omega
          have he : ¬ e = 0 := by have := hes; simp [q1, q2, q3, q4] at this; exact this
          have he' : ¬ ((e : Nat) : Int) = 0 := by omega
          simp only [d4, he', decide_false, decide_true]

/-! ### a sign of any number -/

theorem enc97 : encodeRune ((97 : Nat) : Int) = [97] := by decide +kernel
theorem enc98 : encodeRune ((98 : Nat) : Int) = [98] := by decide +kernel
theorem sgn97 (b : List UInt8) : sgn (97 :: b) = (1, 97) := by
  have := sgn_encode (r := 97) (by omega) (by omega) b
  rw [enc97] at this
  exact this
theorem sgn98 (b : List UInt8) : sgn (98 :: b) = (1, 98) := by
  have := sgn_encode (r := 98) (by omega) (by omega) b
  rw [enc98] at this
  exact this

theorem step97 : stepW 97 w0 = (0, ⟨[], [97], true, false, false, false⟩) := by
  have : moveW 97 w0 = some ⟨[], [97], true, false, false, false⟩ := by kernel_rfl
  unfold stepW; rw [this]; rfl

theorem plain_98 : blankW 98 = false ∧ plainW 98 = true := by decide

theorem words_sign {r : Nat} (h1 : r ≤ 1114111) (h2 : ¬ (55296 ≤ r ∧ r < 57344)) :
    wordsW ([97] ++ encodeRune (r : Int) ++ [98]) = if blankW r = true then ([[97], [98]], 0, 0) else if r < 32 ∨ r = 34 ∨ r = 127 then ([], 1, 14) else ([[97] ++ encodeRune (r : Int) ++ [98]], 0, 0) := by
  have hlen : 1 ≤ (encodeRune (r : Int)).length ∧ (encodeRune (r : Int)).length ≤ 4 := by
    have := encodeRuneZ_length (r : Int)
    unfold encodeRune
    rw [List.length_map]
    exact this
  generalize hE : encodeRune (r : Int) = E at hlen
  have hL : ([97] ++ E ++ [98]).length = E.length + 2 := by simp
  have hw : wordsW ([97] ++ E ++ [98]) = run ([97] ++ E ++ [98]) 0 w0 := by unfold wordsW; rw [if_neg (by omega), run_of _ _ _ (by omega)]
  have s0 : sgn (([97] ++ E ++ [98]).drop 0) = (1, 97) := sgn97 (E ++ [98])
  have s1 : sgn (([97] ++ E ++ [98]).drop 1) = (E.length, r) := by
    have := sgn_encode h1 h2 [98]
    rw [hE] at this
    exact this
  have s2 : sgn (([97] ++ E ++ [98]).drop (1 + E.length)) = (1, 98) := by
    have : ([97] ++ E ++ [98]).drop (1 + E.length) = [98] := by
      have e : 1 + E.length = ([97] ++ E).length + 0 := by simp; omega
      rw [e, drop_app_r]; rfl
    rw [this]
    exact sgn98 []
  rw [hw, run_step (by omega), s0, if_neg (by decide), step97, if_pos rfl]
  dsimp only
  rw [Nat.zero_add, run_step (by omega), s1]
  dsimp only
  rw [if_neg (by omega)]
  have h34 : blankW r = true → r ≠ 34 := fun hb e => by rw [e] at hb; revert hb; decide
  cases hbl : blankW r with
  | true =>
    have hm : moveW r ⟨[], [97], true, false, false, false⟩ = some ⟨[[97]], [], false, false, false, false⟩ := by
      simp only [moveW, Bool.false_eq_true, if_false, if_neg (h34 hbl), hbl, if_true, endW, List.nil_append]
    have hst : stepW r ⟨[], [97], true, false, false, false⟩ = (0, ⟨[[97]], [], false, false, false, false⟩) := by unfold stepW; rw [hm]; rfl
    have hm2 : moveW 98 ⟨[[97]], [], false, false, false, false⟩ = some ⟨[[97]], [98], true, false, false, false⟩ := by kernel_rfl
    have hst2 : stepW 98 ⟨[[97]], [], false, false, false, false⟩ = (0, ⟨[[97]], [98], true, false, false, false⟩) := by unfold stepW; rw [hm2]; rfl
    rw [hst, if_pos rfl, if_pos rfl]
    dsimp only
    rw [run_step (by omega), s2]
    dsimp only
    rw [if_neg (by omega), hst2, if_pos rfl, run_end (by omega)]
    rfl
  | false =>
    rw [if_neg (show ¬ false = true by decide)]
    by_cases hq : r < 32 ∨ r = 34 ∨ r = 127
    · have hm : moveW r ⟨[], [97], true, false, false, false⟩ = none := by
        simp only [moveW, Bool.false_eq_true, if_false, hbl, if_true, Bool.false_or]
        by_cases q : r = 34
        · rw [if_pos q]
        · rw [if_neg q, if_pos]
          unfold plainW
          rw [hbl]
          simp
          omega
      rw [stepW_none hm, if_pos hq, if_neg (show ¬ ((14, (⟨[], [97], true, false, false, false⟩ : Wd)).1 = 0) by intro h; cases h)]
    · have hm : moveW r ⟨[], [97], true, false, false, false⟩ = some ⟨[], [97] ++ E, true, false, false, false⟩ := by
        simp only [moveW, Bool.false_eq_true, if_false, hbl, if_true, Bool.false_or]
        rw [if_neg (by omega), if_neg, hE]
        unfold plainW
        rw [hbl]
        simp
        omega
      have hst : stepW r ⟨[], [97], true, false, false, false⟩ = (0, ⟨[], [97] ++ E, true, false, false, false⟩) := by
        unfold stepW; rw [hm]
        exact if_neg (show ¬ ([97] ++ E).length > 200 by simp; omega)
      have hm2 : moveW 98 ⟨[], [97] ++ E, true, false, false, false⟩ = some ⟨[], [97] ++ E ++ [98], true, false, false, false⟩ := by
        simp only [moveW, Bool.false_eq_true, if_false, plain_98.1, plain_98.2, if_true, Bool.false_or, Bool.not_true, if_neg (show ¬ (98 : Nat) = 34 by omega)]
        rw [enc98]
      have hst2 : stepW 98 ⟨[], [97] ++ E, true, false, false, false⟩ = (0, ⟨[], [97] ++ E ++ [98], true, false, false, false⟩) := by
        unfold stepW; rw [hm2]
        exact if_neg (show ¬ ([97] ++ E ++ [98]).length > 200 by omega)
      rw [hst, if_pos rfl, if_neg hq]
      dsimp only
      rw [run_step (by omega), s2]
      dsimp only
      rw [if_neg (by omega), hst2, if_pos rfl, run_end (by omega)]
      rfl

theorem cnt_sign {r : Nat} (h1 : r ≤ 1114111) (h2 : ¬ (55296 ≤ r ∧ r < 57344)) : cnt (encodeRune (r : Int)) = (1, true) := by
  have hlen : 1 ≤ (encodeRune (r : Int)).length := by
    have := (encodeRuneZ_length (r : Int)).1
    unfold encodeRune
    rw [List.length_map]
    exact this
  have hs := sgn_encode h1 h2 []
  rw [List.append_nil] at hs
  unfold cnt
  rw [cnt_fuel (encodeRune (r : Int)).length ((encodeRune (r : Int)).length + 1) 0 0 (by omega) (by omega)]
  unfold cntW
  rw [if_neg (by omega), List.drop_zero, hs]
  dsimp only
  rw [if_neg (by omega), Nat.zero_add, cnt_fuel (encodeRune (r : Int)).length 0 _ _ (by omega) (by omega)]
  rfl

theorem law_WordSigns (h : Sat B H L) (x0 : Int) (hx0 : 0 ≤ x0) (hx1 : x0 ≤ 4294967295) : Am.Rec.call (Am.Run env) 7 [.int .u32 x0] H fun v _ => v = .bool true := by
  obtain ⟨r, hr, hr1⟩ : ∃ r : Nat, IntKind.i32.wrap (Int.tmod x0 1114112) = (r : Int) ∧ r ≤ 1114111 := by
    refine ⟨(x0 % 1114112).toNat, ?_, by omega⟩
    rw [tmod_pos hx0, IntWalk.i32_in _ (by omega)]
    omega
  rw [eq7, hr]
  by_cases h2 : 55296 ≤ r ∧ r < 57344
  · have d1 : (r : Int) ≥ 55296 := by omega
    have d2 : (r : Int) < 57344 := by omega
    simp only [d1, d2, decide_true, Bool.and_self, br_true]
    exact sp_awake h (fun H2 h2 => rfl)
  · have d1 : (decide ((r : Int) ≥ 55296) && decide ((r : Int) < 57344)) = false := by simp; omega
    have hlen : (encodeRune (r : Int)).length ≤ 4 := by
      have := (encodeRuneZ_length (r : Int)).2
      unfold encodeRune
      rw [List.length_map]
      exact this
    rw [d1, br_false, utf8_enc hr1 h2, join_of, join_of, joinOk_of (by simp; omega), joinOk_of (by simp; omega), req_true, req_true]
    refine sp_Words h (fun q1 c1 H2 h2' => ?_)
    have hws := words_sign hr1 h2
    rw [hws] at h2' ⊢
    simp only [isTuple_tuple, vals_tuple, nthV_zero, nthV_one, nthV_two, isK_slice, isK_int, List.length_cons, List.length_nil, Nat.reduceAdd, decide_true, Bool.and_self, Bool.or_false, req_true, slPtr_slice, slLen_slice, slCap_slice]
    rw [sp_Count (by omega)]
    have hcnt := cnt_sign hr1 h2
    unfold cnt at hcnt
    rw [hcnt]
    simp only [isTuple_tuple, vals_tuple, nthV_zero, nthV_one, nthV_two, isK_slice, isK_int, isK_bool, List.length_cons, List.length_nil, Nat.reduceAdd, decide_true, Bool.and_self, Bool.or_false, req_true]
    refine sp_awake h2' (fun H3 h3 => ?_)
    have z1 : ((1 : Nat) : Int) = 1 := rfl
    simp only [isK_bool, getBool_bool, getInt_int, req_true, z1, decide_true, Bool.not_true, Bool.not_false, cond_true, br_false]
    have hbb : (bif !decide ((r : Int) = 32) then bif !decide ((r : Int) = 9) then decide ((r : Int) = 12288) else true else true) = blankW r := by
      unfold blankW
      by_cases h1 : r = 32
      · subst h1; rfl
      · by_cases h2 : r = 9
        · subst h2; rfl
        · have d1 : ¬ (r : Int) = 32 := by omega
          have d2 : ¬ (r : Int) = 9 := by omega
          simp only [d1, d2, h1, h2, decide_false, Bool.not_false, cond_true, false_or, decide_eq_decide]
          omega
    rw [hbb]
    cases hbl : blankW r with
    | true =>
      rw [hbl] at h3
      simp only [if_true] at h3 ⊢
      have z0 : ((0 : Nat) : Int) = 0 := rfl
      simp only [br_true, z0, decide_true, joinP_eq]
      have h4 := row_lit h3 [[97], [98]]
      have h5 := h4.up 1
      simp only [nthA, outA] at h5
      have hs := sp_same (c1 := c1) (c2 := 2) (K := fun v H' => req (V.isK .bool v) (req (isKT (KT.k .bool) (some (T.v (V.bool v.getBool))) || false || false) (V.bool (V.getBool (T.val (some (T.v (V.bool v.getBool))))) = V.bool true))) h5.rwRd h4.rwRd (by decide)
      have := hs.symm ▸ (by simp only [joinP_eq, br_true, br_false, req_true, look_cons, look_nil, reduceIte, reduceCtorEq, T_val_v, isKT_k, isKT_agg, isKT_lp, isLK_c, locCells_c, nthV_zero, nthV_one, nthV_two, vals_tuple, aggCells_agg, isAgg_agg, getInt_int, getBool_bool, getStr_str, getPtr_ptr, slPtr_slice, slLen_slice, slCap_slice, isK_int, isK_bool, isK_str, isK_ptr, isK_slice, isTuple_tuple, List.length_cons, List.length_nil, Bool.and_true, Bool.true_and, Bool.or_false, Bool.false_or, Bool.and_self, decide_true, decide_false, Bool.not_true, Bool.not_false, beq_dec, ble_dec, Nat.reduceAdd, Nat.reduceEqDiff, Nat.reduceEqDiff] : req (V.isK .bool (V.bool (decide (([[97], [98]] : List (List UInt8)) = [[97], [98]])))) (req (isKT (KT.k .bool) (some (T.v (V.bool (V.bool (decide (([[97], [98]] : List (List UInt8)) = [[97], [98]]))).getBool))) || false || false) (V.bool (V.getBool (T.val (some (T.v (V.bool (V.bool (decide (([[97], [98]] : List (List UInt8)) = [[97], [98]]))).getBool))))) = V.bool true)))
      exact this
    | false =>
      rw [hbl] at h3
      simp only [Bool.false_eq_true, if_false, br_false] at h3 ⊢
      by_cases hq : r < 32 ∨ r = 34 ∨ r = 127
      · simp only [if_pos hq]
        have z14 : ((14 : Nat) : Int) = 14 := rfl
        by_cases q1 : (r : Int) < 32
        · simp only [q1, decide_true, Bool.not_true, cond_false, br_true, z14, z1, Bool.and_self]
        · by_cases q2 : (r : Int) = 34
          · have q1' : ¬ ((34 : Int) < 32) := by omega
            simp only [q1', q2, decide_true, decide_false, Bool.not_true, Bool.not_false, cond_true, cond_false, br_true, z14, z1, Bool.and_self]
          · have q3 : (r : Int) = 127 := by omega
            have q1' : ¬ ((127 : Int) < 32) := by omega
            have q2' : ¬ ((127 : Int) = 34) := by omega
            simp only [q1', q2', q3, decide_true, decide_false, Bool.not_true, Bool.not_false, cond_true, cond_false, br_true, z14, z1, Bool.and_self]
      · have q1 : ¬ (r : Int) < 32 := by omega
        have q2 : ¬ (r : Int) = 34 := by omega
        have q3 : ¬ (r : Int) = 127 := by omega
        have z0 : ((0 : Nat) : Int) = 0 := rfl
        rw [if_neg hq] at h3
        simp only [if_neg hq, q1, q2, q3, z0, decide_true, decide_false, Bool.not_false, cond_true, br_false, br_true]
        have h4 := row_lit h3 [[97] ++ encodeRune (r : Int) ++ [98]]
        have h5 := h4.up 1
        simp only [nthA, outA] at h5
        have hs := sp_same (c1 := c1) (c2 := 1) (K := fun v H' => req (V.isK .bool v) (V.bool v.getBool = V.bool true)) h5.rwRd h4.rwRd (by simp)
        have := hs.symm ▸ (by simp only [joinP_eq, br_true, br_false, req_true, look_cons, look_nil, reduceIte, reduceCtorEq, T_val_v, isKT_k, isKT_agg, isKT_lp, isLK_c, locCells_c, nthV_zero, nthV_one, nthV_two, vals_tuple, aggCells_agg, isAgg_agg, getInt_int, getBool_bool, getStr_str, getPtr_ptr, slPtr_slice, slLen_slice, slCap_slice, isK_int, isK_bool, isK_str, isK_ptr, isK_slice, isTuple_tuple, List.length_cons, List.length_nil, Bool.and_true, Bool.true_and, Bool.or_false, Bool.false_or, Bool.and_self, decide_true, decide_false, Bool.not_true, Bool.not_false, beq_dec, ble_dec, Nat.reduceAdd, Nat.reduceEqDiff, Nat.reduceEqDiff] : req (V.isK .bool (V.bool (decide (([[97] ++ encodeRune (r : Int) ++ [98]] : List (List UInt8)) = [[97] ++ encodeRune (r : Int) ++ [98]])))) (V.bool (V.bool (decide (([[97] ++ encodeRune (r : Int) ++ [98]] : List (List UInt8)) = [[97] ++ encodeRune (r : Int) ++ [98]]))).getBool = V.bool true))
        exact this
end
end Go.Proofs.Ytibkggbidojocaa
