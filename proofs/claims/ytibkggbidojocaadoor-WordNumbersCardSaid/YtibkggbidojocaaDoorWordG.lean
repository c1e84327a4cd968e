/- The reader's step at a sign; a line's words. -/
import Derived.Test.YtibkggbidojocaaDoorWordF
namespace Go.Proofs.YtibkggbidojocaaDoor
open Go.Am Go.Lib
set_option maxRecDepth 100000
set_option linter.unusedSimpArgs false
set_option linter.unusedVariables false
set_option linter.unusedSectionVars false

section

variable {B : Am.Heap} {L : List Ast} {H : Am.Heap} {K : V → Am.Heap → Prop} {id : Nat} {σ : Wd}

theorem RdO.rf {q : Option (Nat × Nat)} {c : Nat} {ad qb : Option (Nat × Nat)} {cb : Nat} (h : RdO B L id σ q c ad qb cb H) : RF H id (rcs q c ad qb cb σ) := RF.of (rcs_len ..) h.2.2.2.get
theorem RdO.inn {q : Option (Nat × Nat)} {c : Nat} {ad qb : Option (Nat × Nat)} {cb : Nat} (h : RdO B L id σ q c ad qb cb H) (b : Bool) : RdO B L id { σ with inn := b } q c ad qb cb (H.store id 3 [.bool b]) := ⟨h.1, h.2.1, h.2.2.1, h.2.2.2.store⟩
theorem RdO.text {q : Option (Nat × Nat)} {c : Nat} {ad qb : Option (Nat × Nat)} {cb : Nat} (h : RdO B L id σ q c ad qb cb H) (b : Bool) : RdO B L id { σ with text := b } q c ad qb cb (H.store id 4 [.bool b]) := ⟨h.1, h.2.1, h.2.2.1, h.2.2.2.store⟩
theorem RdO.mark {q : Option (Nat × Nat)} {c : Nat} {ad qb : Option (Nat × Nat)} {cb : Nat} (h : RdO B L id σ q c ad qb cb H) (b : Bool) : RdO B L id { σ with mark := b } q c ad qb cb (H.store id 5 [.bool b]) := ⟨h.1, h.2.1, h.2.2.1, h.2.2.2.store⟩
theorem RdO.shut {q : Option (Nat × Nat)} {c : Nat} {ad qb : Option (Nat × Nat)} {cb : Nat} (h : RdO B L id σ q c ad qb cb H) (b : Bool) : RdO B L id { σ with shut := b } q c ad qb cb (H.store id 6 [.bool b]) := ⟨h.1, h.2.1, h.2.2.1, h.2.2.2.store⟩

theorem sp_blank (r : Nat) : Am.Rec.call (Am.Run env) 31 [.int .i32 (r : Int)] H K = K (.bool (blankW r)) H := by
  rw [eq31]
  congr 2
  unfold blankW
  by_cases h1 : r = 32
  · subst h1; rfl
  · by_cases h2 : r = 9
    · subst h2; rfl
    · have d1 : ¬ (r : Int) = 32 := by omega
      have d2 : ¬ (r : Int) = 9 := by omega
      simp only [d1, d2, h1, h2, decide_false, Bool.not_false, cond_true, false_or, decide_eq_decide]
      omega

theorem sp_plain (r : Nat) : Am.Rec.call (Am.Run env) 32 [.int .i32 (r : Int)] H K = K (.bool (plainW r)) H := by
  rw [eq32]
  by_cases h1 : 32 ≤ r
  · have d1 : (r : Int) ≥ 32 := by omega
    by_cases h2 : r = 34
    · subst h2
      have d2 : ((34 : Nat) : Int) = 34 := rfl
      have e : plainW 34 = false := by decide
      simp only [d1, d2, e, joinP_eq, br_true, br_false, req_true, look_cons, look_nil, reduceIte, reduceCtorEq, T_val_v, isKT_k, isKT_agg, isKT_lp, isLK_c, locCells_c, nthV_zero, nthV_one, nthV_two, vals_tuple, aggCells_agg, isAgg_agg, getInt_int, getBool_bool, getStr_str, getPtr_ptr, slPtr_slice, slLen_slice, slCap_slice, isK_int, isK_bool, isK_str, isK_ptr, isK_slice, isTuple_tuple, List.length_cons, List.length_nil, Bool.and_true, Bool.true_and, Bool.or_false, Bool.false_or, Bool.and_self, decide_true, decide_false, Bool.not_true, Bool.not_false, beq_dec, ble_dec, Nat.reduceAdd, Nat.reduceEqDiff, Nat.reduceEqDiff]
      rfl
    · have d2 : ¬ (r : Int) = 34 := by omega
      simp only [d1, d2, decide_true, decide_false, Bool.not_false, br_true]
      rw [sp_blank]
      simp only [joinP_eq, br_true, br_false, req_true, look_cons, look_nil, reduceIte, reduceCtorEq, T_val_v, isKT_k, isKT_agg, isKT_lp, isLK_c, locCells_c, nthV_zero, nthV_one, nthV_two, vals_tuple, aggCells_agg, isAgg_agg, getInt_int, getBool_bool, getStr_str, getPtr_ptr, slPtr_slice, slLen_slice, slCap_slice, isK_int, isK_bool, isK_str, isK_ptr, isK_slice, isTuple_tuple, List.length_cons, List.length_nil, Bool.and_true, Bool.true_and, Bool.or_false, Bool.false_or, Bool.and_self, decide_true, decide_false, Bool.not_true, Bool.not_false, beq_dec, ble_dec, Nat.reduceAdd, Nat.reduceEqDiff, Nat.reduceEqDiff]
      unfold plainW
      cases hb : blankW r with
      | true =>
        simp only [Bool.not_true, br_false, Bool.and_false]
      | false =>
        simp only [Bool.not_false, br_true, Bool.and_true]
        by_cases h3 : r = 127
        · subst h3; rfl
        · have d3 : ¬ (r : Int) = 127 := by omega
          have d4 : (32 ≤ r ∧ r ≠ 34 ∧ r ≠ 127) := ⟨h1, h2, h3⟩
          simp only [d3, d4, decide_false, decide_true, Bool.not_false, ne_eq, not_false_eq_true, and_self]
  · have d1 : ¬ (r : Int) ≥ 32 := by omega
    have e : plainW r = false := by
      unfold plainW
      have : ¬ (32 ≤ r ∧ r ≠ 34 ∧ r ≠ 127) := by omega
      simp only [this, decide_false, Bool.false_and]
    simp only [d1, e, decide_false, br_false]

theorem stepW_none {r : Nat} (h : moveW r σ = none) : stepW r σ = (14, σ) := by unfold stepW; rw [h]

theorem sp_sign20 {r : Nat} (h1 : r ≤ 1114111) (h2 : ¬ (55296 ≤ r ∧ r < 57344)) (h : RdS B L id σ H) (hw : σ.ws.length ≤ 900) (hb : σ.buf.length ≤ 1000)
    (k : ∀ H', Sat B H' L → ((stepW r σ).1 = 0 → RdS B L id (stepW r σ).2 H') → K (.int .i64 ((stepW r σ).1 : Int)) H') :
    Am.Rec.call (Am.Run env) 16 [.ptr (some (id, 0)), .int .i32 (r : Int)] H K := by
  obtain ⟨q, c, ad, qb, cb, h⟩ := h
  rw [eq16]
  have hf := h.rf
  have c3 : nthV (rcs q c ad qb cb σ) 3 = .bool σ.inn := rfl
  have c4 : nthV (rcs q c ad qb cb σ) 4 = .bool σ.text := rfl
  have c5 : nthV (rcs q c ad qb cb σ) 5 = .bool σ.mark := rfl
  have c6 : nthV (rcs q c ad qb cb σ) 6 = .bool σ.shut := rfl
  have bad : moveW r σ = none → K (.int .i64 14) H := fun hm => by
    have e := stepW_none hm
    have := k H h.2.2.2.drop.drop.drop (fun h0 => by rw [e] at h0; cases h0)
    rw [e] at this
    exact this
  simp only [Option.isSome_some, Option.getD_some, Nat.zero_add, hf.inb 5 (by omega), hf.inb 4 (by omega), hf.inb 3 (by omega), hf.inb 6 (by omega), hf.cell, c3, c4, c5, c6, isK_bool, isK_slice, getBool_bool, req_true, Bool.and_self, Bool.and_true]
  refine joinP_gen (fun S => ∃ τ, moveW r σ = some τ ∧ RdS B L id τ S.hp) ?_ ?_
  · rintro S ⟨τ, hm, q', c', ad', qb', cb', h'⟩
    have hc2 : nthV (rcs q' c' ad' qb' cb' τ) 2 = .slice qb' τ.buf.length cb' := rfl
    rw [sp_Len h'.rf hc2]
    simp only [joinP_eq, br_true, br_false, req_true, look_cons, look_nil, reduceIte, reduceCtorEq, T_val_v, isKT_k, isKT_agg, isKT_lp, isLK_c, locCells_c, nthV_zero, nthV_one, nthV_two, vals_tuple, aggCells_agg, isAgg_agg, getInt_int, getBool_bool, getStr_str, getPtr_ptr, slPtr_slice, slLen_slice, slCap_slice, isK_int, isK_bool, isK_str, isK_ptr, isK_slice, isTuple_tuple, List.length_cons, List.length_nil, Bool.and_true, Bool.true_and, Bool.or_false, Bool.false_or, Bool.and_self, decide_true, decide_false, Bool.not_true, Bool.not_false, beq_dec, ble_dec, Nat.reduceAdd, Nat.reduceEqDiff, Nat.reduceEqDiff]
    by_cases hbig : τ.buf.length > 200
    · have d1 : (τ.buf.length : Int) > 200 := by omega
      have e : stepW r σ = (2, τ) := by unfold stepW; rw [hm]; exact if_pos hbig
      have := k S.hp h'.2.2.2.drop.drop.drop (fun h0 => by rw [e] at h0; cases h0)
      rw [e] at this
      simp only [d1, decide_true, br_true]
      exact this
    · have d1 : ¬ (τ.buf.length : Int) > 200 := by omega
      have e : stepW r σ = (0, τ) := by unfold stepW; rw [hm]; exact if_neg hbig
      have := k S.hp h'.2.2.2.drop.drop.drop (fun h0 => by rw [e]; exact ⟨q', c', ad', qb', cb', h'⟩)
      rw [e] at this
      simp only [d1, decide_false, br_false]
      exact this
  · intro Q hQ
    have wr : ∀ {τ : Wd} {H' : Am.Heap}, RdS B L id τ H' → τ.buf = σ.buf → moveW r σ = some { τ with buf := σ.buf ++ encodeRune (r : Int) } →
        Am.Rec.call (Am.Run env) 30 [V.ptr (some (id, 1)), V.int .i32 (r : Int)] H' fun v H' => req (V.isTuple 2 v && (V.isK (.int .i64) (nthV (V.vals v) 0) && (V.isK .iface (nthV (V.vals v) 1) || false))) (Q (St.mk (Am.look []) (Am.look []) H')) := by
      intro τ H' h' he hm
      refine sp_wRune h1 h2 h' (by rw [he]; omega) (fun v H2 v1 v2 v3 h'' => ?_)
      simp only [v1, v2, v3, Bool.and_self, Bool.or_false, req_true]
      refine hQ _ ⟨_, hm, ?_⟩
      rw [he] at h''
      exact h''
    cases hmk : σ.mark with
    | true =>
      simp only [br_true]
      rw [sp_IndexRune h1 h2]
      simp only [getInt_int, isK_int, req_true]
      have hmv : moveW r σ = (match esc r with | some b => some { σ with buf := σ.buf ++ [b], mark := false } | none => none) := by unfold moveW; rw [hmk]; rfl
      have good : ∀ (b : UInt8), esc r = some b → Am.Rec.call (Am.Run env) 29 [V.ptr (some (id, 1)), V.int .u8 (b.toNat : Int)] H fun v H' => req (V.isK .iface v) (req (H'.wr id 5 1) (Q (St.mk (Am.look []) (Am.look []) (H'.store id 5 [.bool false])))) := by
        intro b hb'
        refine sp_wByte ⟨q, c, ad, qb, cb, h⟩ (by omega) b (fun H' h' => ?_)
        obtain ⟨q', c', ad', qb', cb', h'⟩ := h'
        simp only [h'.rf.wr 5 (by omega), req_true, V.isK]
        refine hQ _ ⟨_, by rw [hmv, hb'], ⟨q', c', ad', qb', cb', h'.mark false⟩⟩
      by_cases e1 : r = 34
      · subst e1; exact good 34 rfl
      · by_cases e2 : r = 92
        · subst e2; exact good 92 rfl
        · by_cases e3 : r = 110
          · subst e3; exact good 10 rfl
          · by_cases e4 : r = 116
            · subst e4; exact good 9 rfl
            · have e5 : idxE r = -1 := by unfold idxE; rw [if_neg e1, if_neg e2, if_neg e3, if_neg e4]
              have e6 : esc r = none := by unfold esc; rw [if_neg e1, if_neg e2, if_neg e3, if_neg e4]
              rw [e5]
              exact bad (by rw [hmv, e6])
    | false =>
      simp only [br_false]
      cases htx : σ.text with
      | true =>
        simp only [Bool.true_and]
        have hmv : moveW r σ = (if r = 92 then some { σ with mark := true }
            else if r = 34 then some { σ with text := false, shut := true }
            else if r < 32 then none
            else some { σ with buf := σ.buf ++ encodeRune (r : Int) }) := by unfold moveW; rw [hmk, htx]; rfl
        by_cases e1 : r = 92
        · have d1 : (r : Int) = 92 := by omega
          simp only [d1, decide_true, br_true, hf.wr 5 (by omega), req_true]
          exact hQ _ ⟨_, by rw [hmv, if_pos e1], ⟨q, c, ad, qb, cb, h.mark true⟩⟩
        · have d1 : ¬ (r : Int) = 92 := by omega
          simp only [d1, decide_false, br_false]
          by_cases e2 : r = 34
          · have d2 : (r : Int) = 34 := by omega
            have h' := h.text false
            simp only [d2, decide_true, br_true, hf.wr 4 (by omega), h'.rf.wr 6 (by omega), req_true]
            exact hQ _ ⟨_, by rw [hmv, if_neg e1, if_pos e2], ⟨q, c, ad, qb, cb, h'.shut true⟩⟩
          · have d2 : ¬ (r : Int) = 34 := by omega
            simp only [d2, decide_false, br_false]
            by_cases e3 : r < 32
            · have d3 : (r : Int) < 32 := by omega
              simp only [d3, decide_true, br_true]
              exact bad (by rw [hmv, if_neg e1, if_neg e2, if_pos e3])
            · have d3 : ¬ (r : Int) < 32 := by omega
              simp only [d3, decide_false, br_false, br_true]
              exact wr (τ := σ) ⟨q, c, ad, qb, cb, h⟩ rfl (by rw [hmv, if_neg e1, if_neg e2, if_neg e3])
      | false =>
        simp only [Bool.false_and, br_false]
        have hmv : moveW r σ = (if r = 34 then (if σ.inn then none else some { σ with inn := true, text := true })
            else if blankW r then some (endW σ)
            else if σ.shut || !plainW r then none
            else some { σ with inn := true, buf := σ.buf ++ encodeRune (r : Int) }) := by unfold moveW; rw [hmk, htx]; rfl
        by_cases e1 : r = 34
        · have d1 : (r : Int) = 34 := by omega
          simp only [d1, decide_true, br_true]
          cases hin : σ.inn with
          | true =>
            simp only [br_true]
            exact bad (by rw [hmv, if_pos e1, hin]; rfl)
          | false =>
            have h' := h.inn true
            simp only [br_false, hf.wr 3 (by omega), h'.rf.wr 4 (by omega), req_true]
            exact hQ _ ⟨_, by rw [hmv, if_pos e1, hin]; rfl, ⟨q, c, ad, qb, cb, h'.text true⟩⟩
        · have d1 : ¬ (r : Int) = 34 := by omega
          simp only [d1, decide_false, br_false]
          rw [sp_blank]
          simp only [isK_bool, isK_slice, getBool_bool, req_true]
          cases hbl : blankW r with
          | true =>
            simp only [br_true]
            exact sp_end ⟨q, c, ad, qb, cb, h⟩ hw (by omega) (fun H' h' => hQ _ ⟨_, by rw [hmv, if_neg e1, hbl]; rfl, h'⟩)
          | false =>
            simp only [br_false]
            refine joinP_gen (fun S => S = St.mk (Am.look [(96, T.v (V.bool (σ.shut || !plainW r)))]) (Am.look []) H) ?_ ?_
            · rintro S rfl
              simp only [joinP_eq, br_true, br_false, req_true, look_cons, look_nil, reduceIte, reduceCtorEq, T_val_v, isKT_k, isKT_agg, isKT_lp, isLK_c, locCells_c, nthV_zero, nthV_one, nthV_two, vals_tuple, aggCells_agg, isAgg_agg, getInt_int, getBool_bool, getStr_str, getPtr_ptr, slPtr_slice, slLen_slice, slCap_slice, isK_int, isK_bool, isK_str, isK_ptr, isK_slice, isTuple_tuple, List.length_cons, List.length_nil, Bool.and_true, Bool.true_and, Bool.or_false, Bool.false_or, Bool.and_self, decide_true, decide_false, Bool.not_true, Bool.not_false, beq_dec, ble_dec, Nat.reduceAdd, Nat.reduceEqDiff, Nat.reduceEqDiff]
              cases hx : (σ.shut || !plainW r) with
              | true =>
                simp only [br_true]
                exact bad (by rw [hmv, if_neg e1, hbl, hx]; rfl)
              | false =>
                simp only [br_false, hf.wr 3 (by omega), req_true]
                have hm2 : moveW r σ = some { σ with inn := true, buf := σ.buf ++ encodeRune (r : Int) } := by rw [hmv, if_neg e1, hbl, hx]; rfl
                have hwr := wr (τ := { σ with inn := true }) ⟨q, c, ad, qb, cb, h.inn true⟩ rfl hm2
                simp only [Bool.or_false] at hwr
                exact hwr
            · intro Q' hQ'
              cases hs : σ.shut with
              | true =>
                simp only [hf.inb 6 (by omega), hf.cell, c6, isK_bool, getBool_bool, req_true, Bool.and_self, hs, Bool.not_true, br_false]
                exact hQ' _ (by rw [hs]; rfl)
              | false =>
                simp only [hf.inb 6 (by omega), hf.cell, c6, isK_bool, getBool_bool, req_true, Bool.and_self, hs, Bool.not_false, br_true]
                rw [sp_plain]
                simp only [isK_bool, isK_slice, getBool_bool, req_true]
                exact hQ' _ (by rw [hs]; rfl)

end

end Go.Proofs.YtibkggbidojocaaDoor
