/- A line's words: word.Words; the document's. -/
import Derived.Test.YtibkggbidojocaaDoorWordG
namespace Go.Proofs.YtibkggbidojocaaDoor
open Go.Am Go.Lib
set_option maxRecDepth 100000
set_option linter.unusedSimpArgs false
set_option linter.unusedVariables false
set_option linter.unusedSectionVars false

theorem endW_len (σ : Wd) : (endW σ).ws.length ≤ σ.ws.length + 1 ∧ (endW σ).buf.length ≤ σ.buf.length := by
  unfold endW
  split <;> simp

theorem stepW_ok {r : Nat} {σ : Wd} (h : (stepW r σ).1 = 0) : (stepW r σ).2.ws.length ≤ σ.ws.length + 1 ∧ (stepW r σ).2.buf.length ≤ 200 := by
  unfold stepW at h ⊢
  cases hm : moveW r σ with
  | none => rw [hm] at h; cases h
  | some τ =>
    rw [hm] at h
    dsimp only at h ⊢
    by_cases hb : τ.buf.length > 200
    · rw [if_pos hb] at h; cases h
    · rw [if_neg hb]
      refine ⟨?_, by show τ.buf.length ≤ 200; omega⟩
      show τ.ws.length ≤ _
      unfold moveW at hm
      split at hm
      · split at hm
        · cases hm; exact Nat.le_succ _
        · cases hm
      · split at hm
        · split at hm
          · cases hm; exact Nat.le_succ _
          · split at hm
            · cases hm; exact Nat.le_succ _
            · split at hm
              · cases hm
              · cases hm; exact Nat.le_succ _
        · split at hm
          · split at hm
            · cases hm
            · cases hm; exact Nat.le_succ _
          · split at hm
            · cases hm; exact (endW_len σ).1
            · split at hm
              · cases hm
              · cases hm; exact Nat.le_succ _

section

variable {B : Am.Heap} {L : List Ast} {H : Am.Heap} {K : V → Am.Heap → Prop} {id : Nat} {bs : List UInt8}

theorem words_loop (hb : bs.length ≤ 400) {R : Res} {Kr : St → Prop} {Ke : Nat → St → Prop}
    (hr : ∀ H' (i e : Nat), Sat B H' L → R = ([], i, e) → Kr (St.mk (Am.look [(2, T.v (V.slice none 0 0)), (3, T.v (V.int .i64 (i : Int))), (4, T.v (V.int .i64 (e : Int)))]) (Am.look []) H'))
    (he : ∀ H' (σ : Wd), RdS B L id σ H' → R = finW bs.length σ → σ.ws.length ≤ 400 → σ.buf.length ≤ 200 → Ke 0 (St.mk (Am.look [(0, T.v (V.str (strOf bs))), (5, T.v (V.ptr (some (id, 0))))]) (Am.look []) H')) :
    ∀ (f i : Nat) (σ : Wd) (H : Am.Heap), bs.length ≤ i + f → i ≤ bs.length → σ.ws.length ≤ i → σ.buf.length ≤ 200 → RdS B L id σ H → R = run bs i σ →
    Am.Rec.loop (Am.Run env) (loopAt env 11 6) 11 6 (St.mk (Am.look [(0, T.v (V.str (strOf bs))), (5, T.v (V.ptr (some (id, 0)))), (15, T.lp 15 0)]) (Am.look [(15, Loc.iter (strOf bs) i)]) H) Kr Ke
  | f, i, σ, H, hf, hi, hw, hbuf, h, hR => by
    rw [lp11_6]
    by_cases hl : bs.length ≤ i
    · have h1 : Nat.ble (Nat.succ i) (strOf bs).size = false := by rw [strOf_size]; simp; omega
      simp only [h1, br_false]
      rw [run_end hl] at hR
      have : i = bs.length := by omega
      subst this
      exact he H σ h hR (by omega) hbuf
    · obtain ⟨f, rfl⟩ : ∃ g, f = g + 1 := ⟨f - 1, by omega⟩
      have hlt : i < bs.length := by omega
      have h1 : Nat.ble (Nat.succ i) (strOf bs).size = true := by rw [strOf_size]; simp; omega
      have hsat : Sat B H L := by obtain ⟨q, c, ad, qb, cb, h'⟩ := h; exact h'.2.2.2.drop.drop.drop
      rw [run_step hlt] at hR
      simp only [h1, br_true, decode_drop]
      refine joinP_gen (fun S => S = St.mk (Am.look [(28, T.v (V.bool (decide ((sgn (bs.drop i)).1 = 0))))]) (Am.look []) H) ?_ ?_
      · rintro S rfl
        simp only [joinP_eq, br_true, br_false, req_true, look_cons, look_nil, reduceIte, reduceCtorEq, T_val_v, isKT_k, isKT_agg, isKT_lp, isLK_c, locCells_c, nthV_zero, nthV_one, nthV_two, vals_tuple, aggCells_agg, isAgg_agg, getInt_int, getBool_bool, getStr_str, getPtr_ptr, slPtr_slice, slLen_slice, slCap_slice, isK_int, isK_bool, isK_str, isK_ptr, isK_slice, isTuple_tuple, List.length_cons, List.length_nil, Bool.and_true, Bool.true_and, Bool.or_false, Bool.false_or, Bool.and_self, decide_true, decide_false, Bool.not_true, Bool.not_false, beq_dec, ble_dec, Nat.reduceAdd, Nat.reduceEqDiff, Nat.reduceEqDiff]
        by_cases h0 : (sgn (bs.drop i)).1 = 0
        · rw [if_pos h0] at hR
          simp only [h0, decide_true, br_true]
          exact hr H i 14 hsat hR
        · rw [if_neg h0] at hR
          simp only [h0, decide_false, br_false, dec_of_sgn h0]
          refine sp_sign20 sgn_rune (sgn_valid h0) h (by omega) (by omega) (fun H' hs' hk => ?_)
          simp only [joinP_eq, br_true, br_false, req_true, look_cons, look_nil, reduceIte, reduceCtorEq, T_val_v, isKT_k, isKT_agg, isKT_lp, isLK_c, locCells_c, nthV_zero, nthV_one, nthV_two, vals_tuple, aggCells_agg, isAgg_agg, getInt_int, getBool_bool, getStr_str, getPtr_ptr, slPtr_slice, slLen_slice, slCap_slice, isK_int, isK_bool, isK_str, isK_ptr, isK_slice, isTuple_tuple, List.length_cons, List.length_nil, Bool.and_true, Bool.true_and, Bool.or_false, Bool.false_or, Bool.and_self, decide_true, decide_false, Bool.not_true, Bool.not_false, beq_dec, ble_dec, Nat.reduceAdd, Nat.reduceEqDiff, Nat.reduceEqDiff]
          have hle := sgn_le (drop_ne hlt)
          rw [List.length_drop] at hle
          by_cases hz : (stepW (sgn (bs.drop i)).2 σ).1 = 0
          · rw [if_pos hz] at hR
            have d1 : (((stepW (sgn (bs.drop i)).2 σ).1 : Nat) : Int) = 0 := by omega
            have hso := stepW_ok hz
            simp only [d1, decide_true, Bool.not_true, br_false]
            exact words_loop hb hr he f _ _ H' (by omega) (by omega) (by omega) hso.2 (hk hz) hR
          · rw [if_neg hz] at hR
            have d1 : ¬ (((stepW (sgn (bs.drop i)).2 σ).1 : Nat) : Int) = 0 := by omega
            simp only [d1, decide_false, Bool.not_false, br_true]
            exact hr H' i _ hs' hR
      · intro Q hQ
        by_cases hd : (decodeL (bs.drop i)).1 = 65533
        · have h2 : (((decodeL (bs.drop i)).1 : Nat) : Int) = 65533 := by omega
          have h3 : (0 : Int) ≤ (i : Int) := by omega
          have h4 : (i : Int) ≤ ((strOf bs).size : Int) := by rw [strOf_size]; omega
          simp only [h2, h3, h4, decide_true, br_true, Bool.and_self, req_true]
          rw [strOf_size, sp_whole hlt hd]
          simp only [joinP_eq, br_true, br_false, req_true, look_cons, look_nil, reduceIte, reduceCtorEq, T_val_v, isKT_k, isKT_agg, isKT_lp, isLK_c, locCells_c, nthV_zero, nthV_one, nthV_two, vals_tuple, aggCells_agg, isAgg_agg, getInt_int, getBool_bool, getStr_str, getPtr_ptr, slPtr_slice, slLen_slice, slCap_slice, isK_int, isK_bool, isK_str, isK_ptr, isK_slice, isTuple_tuple, List.length_cons, List.length_nil, Bool.and_true, Bool.true_and, Bool.or_false, Bool.false_or, Bool.and_self, decide_true, decide_false, Bool.not_true, Bool.not_false, beq_dec, ble_dec, Nat.reduceAdd, Nat.reduceEqDiff, Nat.reduceEqDiff]
          refine hQ _ ?_
          by_cases h0 : (sgn (bs.drop i)).1 = 0 <;> simp [h0]
        · have h2 : ¬ (((decodeL (bs.drop i)).1 : Nat) : Int) = 65533 := by omega
          have h0 : ¬ (sgn (bs.drop i)).1 = 0 := fun h => hd (by rw [dec_bad h])
          simp only [h2, decide_false, br_false]
          exact hQ _ (by simp only [h0, decide_false])

theorem sp_Words (h : Sat B H L)
    (k : ∀ q c H', Sat B H' (Rw 9 1 q c ((wordsW bs).1.map st) :: L) → K (.tuple [.slice q (wordsW bs).1.length c, .int .i64 ((wordsW bs).2.1 : Int), .int .i64 ((wordsW bs).2.2 : Int)]) H') :
    Am.Rec.call (Am.Run env) 11 [.str (strOf bs)] H K := by
  rw [eq11]
  by_cases hbig : bs.length > 400
  · have d1 : (((strOf bs).size : Nat) : Int) > 400 := by rw [strOf_size]; omega
    have e : wordsW bs = ([], 400, 2) := by unfold wordsW; rw [if_pos hbig]
    rw [e] at k
    simp only [d1, decide_true, br_true]
    exact k none 0 H (h.rwNil _ _)
  · have d1 : ¬ (((strOf bs).size : Nat) : Int) > 400 := by rw [strOf_size]; omega
    have e : wordsW bs = run bs 0 w0 := by unfold wordsW; rw [if_neg hbig, run_of _ _ _ (by omega)]
    simp only [d1, decide_false, br_false]
    have h0 : RdS B L H.next w0 (H.alloc (.cells 46 (c45 none 0 0 none none 0 0 false false false false) false)) := by
      refine ⟨none, 0, none, none, 0, .inl rfl, nofun, fun _ => rfl, ?_⟩
      have h1 := (h.alloc 46 (c45 none 0 0 none none 0 0 false false false false))
      have h2 := (h1.bufNil 5 1).bufNil 9 1
      have h3 := h2.up 2
      simp only [nthA, outA] at h3
      exact h3
    refine words_loop (R := wordsW bs) (by omega) ?_ ?_ bs.length 0 w0 _ (by omega) (by omega) (Nat.le_refl _) (Nat.zero_le _) h0 e
    · intro H' i e' hs hR
      simp only [joinP_eq, br_true, br_false, req_true, look_cons, look_nil, reduceIte, reduceCtorEq, T_val_v, isKT_k, isKT_agg, isKT_lp, isLK_c, locCells_c, nthV_zero, nthV_one, nthV_two, vals_tuple, aggCells_agg, isAgg_agg, getInt_int, getBool_bool, getStr_str, getPtr_ptr, slPtr_slice, slLen_slice, slCap_slice, isK_int, isK_bool, isK_str, isK_ptr, isK_slice, isTuple_tuple, List.length_cons, List.length_nil, Bool.and_true, Bool.true_and, Bool.or_false, Bool.false_or, Bool.and_self, decide_true, decide_false, Bool.not_true, Bool.not_false, beq_dec, ble_dec, Nat.reduceAdd, Nat.reduceEqDiff, Nat.reduceEqDiff]
      rw [hR] at k
      exact k none 0 H' (hs.rwNil _ _)
    · rintro H' σ ⟨q, c, ad, qb, cb, h'⟩ hR hw hbuf
      have c4 : nthV (rcs q c ad qb cb σ) 4 = .bool σ.text := rfl
      simp only [joinP_eq, br_true, br_false, req_true, look_cons, look_nil, reduceIte, reduceCtorEq, T_val_v, isKT_k, isKT_agg, isKT_lp, isLK_c, locCells_c, nthV_zero, nthV_one, nthV_two, vals_tuple, aggCells_agg, isAgg_agg, getInt_int, getBool_bool, getStr_str, getPtr_ptr, slPtr_slice, slLen_slice, slCap_slice, isK_int, isK_bool, isK_str, isK_ptr, isK_slice, isTuple_tuple, List.length_cons, List.length_nil, Bool.and_true, Bool.true_and, Bool.or_false, Bool.false_or, Bool.and_self, decide_true, decide_false, Bool.not_true, Bool.not_false, beq_dec, ble_dec, Nat.reduceAdd, Nat.reduceEqDiff, Nat.reduceEqDiff, Option.isSome_some, Option.getD_some, Nat.zero_add, h'.rf.inb 4 (by omega), h'.rf.cell, c4]
      cases htx : σ.text with
      | true =>
        simp only [br_true, strOf_size]
        unfold finW at hR
        rw [htx] at hR
        rw [hR] at k
        exact k none 0 H' (h'.2.2.2.drop.drop.drop.rwNil _ _)
      | false =>
        simp only [br_false]
        unfold finW at hR
        rw [htx, if_neg (by decide)] at hR
        refine sp_end ⟨q, c, ad, qb, cb, h'⟩ (by omega) (by omega) (fun H2 h2 => ?_)
        obtain ⟨q2, c2, ad2, qb2, cb2, h2⟩ := h2
        have c0 : nthV (rcs q2 c2 ad2 qb2 cb2 (endW σ)) 0 = .slice q2 (endW σ).ws.length c2 := rfl
        simp only [h2.rf.inb 0 (by omega), h2.rf.cell, c0, joinP_eq, br_true, br_false, req_true, look_cons, look_nil, reduceIte, reduceCtorEq, T_val_v, isKT_k, isKT_agg, isKT_lp, isLK_c, locCells_c, nthV_zero, nthV_one, nthV_two, vals_tuple, aggCells_agg, isAgg_agg, getInt_int, getBool_bool, getStr_str, getPtr_ptr, slPtr_slice, slLen_slice, slCap_slice, isK_int, isK_bool, isK_str, isK_ptr, isK_slice, isTuple_tuple, List.length_cons, List.length_nil, Bool.and_true, Bool.true_and, Bool.or_false, Bool.false_or, Bool.and_self, decide_true, decide_false, Bool.not_true, Bool.not_false, beq_dec, ble_dec, Nat.reduceAdd, Nat.reduceEqDiff, Nat.reduceEqDiff]
        rw [hR] at k
        refine k q2 c2 H2 ?_
        have h3 := h2.2.2.2.drop.up 1
        simp only [nthA, outA] at h3
        exact h3.drop

/-- A cell of a row's element. -/
theorem rd_cell {H : Am.Heap} {q : Option (Nat × Nat)} {css : List (List V)} {n : Nat} (hr : Rd H q css.flatten) (hu : Uni n css) {i k : Nat} (hi : i < css.length) (hk : k < n) :
    q.isSome = true ∧ H.inb (q.getD (0, 0)).1 ((q.getD (0, 0)).2 + i * n + k) 1 = true ∧ H.cell (q.getD (0, 0)).1 ((q.getD (0, 0)).2 + i * n + k) = Am.nthV css[i] k := by
  have hlen : css.flatten.length = css.length * n := flat_len hu
  have hle : i * n + n ≤ css.length * n := by
    have := Nat.mul_le_mul_right n (show i + 1 ≤ css.length by omega)
    rw [Nat.add_mul] at this
    omega
  have hne : css.flatten ≠ [] := by
    intro e; rw [e] at hlen; simp at hlen; omega
  refine ⟨hr.some hne, ?_, ?_⟩
  · have := hr.inb (i := i * n + k) (k := 1) (by omega) hne; rwa [← Nat.add_assoc] at this
  · have h1 := hr.cell (i := i * n + k) (by omega)
    rw [← Nat.add_assoc] at h1
    rw [h1]
    have hat : (css.flatten.drop (i * n)).take n = css[i] := flat_at hu hi
    rw [nthV_getD, nthV_getD, ← hat]
    simp only [List.getD_eq_getElem?_getD, List.getElem?_take, List.getElem?_drop, if_pos hk]

end

end Go.Proofs.YtibkggbidojocaaDoor
