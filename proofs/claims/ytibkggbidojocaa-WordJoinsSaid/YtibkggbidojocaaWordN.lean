/- Two lines, one behind the other. -/
import Derived.Test.YtibkggbidojocaaWordL
namespace Go.Proofs.Ytibkggbidojocaa
open Go.Am Go.Lib
set_option maxRecDepth 100000
set_option linter.unusedSimpArgs false
set_option linter.unusedVariables false
set_option linter.unusedSectionVars false

/-- What is so of a reader between two signs. -/
structure Wd.ok (σ : Wd) : Prop where
  mark : σ.mark = true → σ.text = true
  text : σ.text = true → σ.inn = true
  buf : σ.inn = false → σ.buf = []
  len : σ.buf.length ≤ 200

theorem w0_ok : w0.ok := ⟨nofun, nofun, fun _ => rfl, Nat.zero_le _⟩

theorem endW_ok {σ : Wd} (h : σ.ok) (ht : σ.text = false) : (endW σ).ok ∧ (endW σ) = ⟨(endW σ).ws, [], false, false, false, false⟩ := by
  have hm : σ.mark = false := by
    cases hx : σ.mark
    · rfl
    · rw [h.mark hx] at ht; cases ht
  have e : (endW σ) = ⟨(endW σ).ws, [], false, false, false, false⟩ := by
    unfold endW
    cases hi : σ.inn with
    | true => simp [ht, hm]
    | false => simp [ht, hm, h.buf hi]
  exact ⟨e ▸ ⟨nofun, nofun, fun _ => rfl, Nat.zero_le _⟩, e⟩

theorem stepW_inv {r : Nat} {σ : Wd} (h : σ.ok) (h0 : (stepW r σ).1 = 0) : (stepW r σ).2.ok := by
  have hb := (stepW_ok h0).2
  unfold stepW at h0 hb ⊢
  cases hm : moveW r σ with
  | none => rw [hm] at h0; cases h0
  | some τ =>
    rw [hm] at h0 hb
    dsimp only at h0 hb ⊢
    by_cases hbig : τ.buf.length > 200
    · rw [if_pos hbig] at h0; cases h0
    · rw [if_neg hbig] at hb ⊢
      dsimp only at hb ⊢
      unfold moveW at hm
      by_cases c1 : σ.mark = true
      · rw [if_pos c1] at hm
        cases he : esc r with
        | none => rw [he] at hm; cases hm
        | some b =>
          rw [he] at hm
          cases hm
          refine ⟨nofun, h.text, fun hi => ?_, hb⟩
          have := h.text (h.mark c1)
          rw [this] at hi
          cases hi
      · rw [if_neg c1] at hm
        by_cases c2 : σ.text = true
        · rw [if_pos c2] at hm
          have hin := h.text c2
          split at hm
          · cases hm
            exact ⟨fun _ => c2, h.text, h.buf, hb⟩
          · split at hm
            · cases hm
              exact ⟨fun hx => absurd hx c1, nofun, h.buf, hb⟩
            · split at hm
              · cases hm
              · cases hm
                exact ⟨fun hx => absurd hx c1, h.text, (fun hi => by rw [hin] at hi; cases hi), hb⟩
        · rw [if_neg c2] at hm
          have ht : σ.text = false := by cases hx : σ.text; rfl; exact absurd hx c2
          split at hm
          · split at hm
            · cases hm
            · cases hm
              exact ⟨fun hx => absurd hx c1, fun _ => rfl, nofun, hb⟩
          · split at hm
            · cases hm
              exact (endW_ok h ht).1
            · split at hm
              · cases hm
              · cases hm
                exact ⟨fun hx => absurd hx c1, fun _ => rfl, nofun, hb⟩

section
variable {a b : List UInt8}

/-- The words of a first part, if it is right; then a blank. -/
theorem run_left (s : List UInt8) (hs : s = a ++ (32 :: b)) : ∀ (f i : Nat) (σ : Wd), a.length ≤ i + f → i ≤ a.length → σ.ok → (run a i σ).2.2 = 0 →
    run s i σ = run s (a.length + 1) ⟨(run a i σ).1, [], false, false, false, false⟩ ∧ (run a i σ).2.1 = 0
  | f, i, σ, hf, hi, hok, h => by
    have hls : s.length = a.length + 1 + b.length := by rw [hs]; simp; omega
    by_cases hl : a.length ≤ i
    · have hia : i = a.length := by omega
      rw [run_end hl] at h ⊢
      have ht : σ.text = false := by
        cases hx : σ.text
        · rfl
        · unfold finW at h; rw [hx, if_pos rfl] at h; cases h
      have hfin : finW i σ = ((endW σ).ws, 0, 0) := by unfold finW; rw [ht]; rfl
      have hm : σ.mark = false := by
        cases hx : σ.mark
        · rfl
        · rw [hok.mark hx] at ht; cases ht
      rw [hfin]
      refine ⟨?_, rfl⟩
      have hsg : sgn (s.drop i) = (1, 32) := by
        have e : s.drop i = encodeRune ((32 : Nat) : Int) ++ b := by
          rw [hs, hia, List.drop_left]
          rfl
        rw [e, sgn_encode (by omega) (by omega)]
        rfl
      have hmv : moveW 32 σ = some (endW σ) := by
        unfold moveW
        rw [hm, ht]
        rfl
      obtain ⟨ho, he⟩ := endW_ok hok ht
      have hst : stepW 32 σ = (0, endW σ) := by
        unfold stepW; rw [hmv]
        exact if_neg (by rw [he]; simp)
      rw [run_step (by omega), hsg]
      dsimp only
      rw [if_neg (by omega), hst, if_pos rfl, hia]
      dsimp only
      rw [he]
    · obtain ⟨f, rfl⟩ : ∃ g, f = g + 1 := ⟨f - 1, by omega⟩
      have hlt : i < a.length := by omega
      have hle := sgn_le (drop_ne hlt)
      rw [List.length_drop] at hle
      have hstep := run_step (σ := σ) hlt
      by_cases h0 : (sgn (a.drop i)).1 = 0
      · rw [hstep, if_pos h0] at h; cases h
      · have hsg : sgn (s.drop i) = sgn (a.drop i) := by
          rw [hs, List.drop_append_of_le_length (by omega)]
          exact sgn_app (drop_ne hlt) h0
        rw [if_neg h0] at hstep
        by_cases hz : (stepW (sgn (a.drop i)).2 σ).1 = 0
        · rw [if_pos hz] at hstep
          rw [hstep] at h ⊢
          have ih := run_left s hs f _ _ (by omega) (by omega) (stepW_inv hok hz) h
          refine ⟨?_, ih.2⟩
          rw [run_step (by omega), hsg, if_neg h0, if_pos hz]
          exact ih.1
        · rw [if_neg hz] at hstep
          rw [hstep] at h
          exact absurd h hz

/-- With some words ahead. -/
def pre (W : List (List UInt8)) (σ : Wd) : Wd := { σ with ws := W ++ σ.ws }

theorem endW_pre (W : List (List UInt8)) (σ : Wd) : endW (pre W σ) = pre W (endW σ) := by
  unfold endW pre
  cases σ.inn <;> simp

theorem moveW_pre (W : List (List UInt8)) (r : Nat) (σ : Wd) : moveW r (pre W σ) = (moveW r σ).map (pre W) := by
  unfold moveW
  have e1 : (pre W σ).mark = σ.mark := rfl
  have e2 : (pre W σ).text = σ.text := rfl
  have e3 : (pre W σ).inn = σ.inn := rfl
  have e4 : (pre W σ).shut = σ.shut := rfl
  rw [e1, e2, e3, e4, endW_pre]
  split
  · cases esc r <;> rfl
  · split
    · split
      · rfl
      · split
        · rfl
        · split <;> rfl
    · split
      · split <;> rfl
      · split
        · rfl
        · split <;> rfl

theorem stepW_pre (W : List (List UInt8)) (r : Nat) (σ : Wd) : stepW r (pre W σ) = ((stepW r σ).1, pre W (stepW r σ).2) := by
  unfold stepW
  rw [moveW_pre]
  cases hm : moveW r σ with
  | none => rfl
  | some τ =>
    dsimp only [Option.map_some]
    have e : (pre W τ).buf = τ.buf := rfl
    rw [e]
    split <;> rfl

theorem run_right (W : List (List UInt8)) (s : List UInt8) (hs : s = a ++ (32 :: b)) : ∀ (f j : Nat) (σ : Wd), b.length ≤ j + f → j ≤ b.length →
    run s (a.length + 1 + j) (pre W σ) = if (run b j σ).2.2 = 0 then (W ++ (run b j σ).1, (run b j σ).2.1, 0) else ([], a.length + 1 + (run b j σ).2.1, (run b j σ).2.2)
  | f, j, σ, hf, hj => by
    have hls : s.length = a.length + 1 + b.length := by rw [hs]; simp; omega
    by_cases hl : b.length ≤ j
    · rw [run_end hl, run_end (by omega)]
      unfold finW
      have e2 : (pre W σ).text = σ.text := rfl
      rw [e2]
      cases σ.text with
      | true => rw [if_pos rfl, if_pos rfl, if_neg (by intro h; cases h)]
      | false =>
        simp only [Bool.false_eq_true, if_false, if_true, endW_pre]
        rfl
    · obtain ⟨f, rfl⟩ : ∃ g, f = g + 1 := ⟨f - 1, by omega⟩
      have hlt : j < b.length := by omega
      have hle := sgn_le (drop_ne hlt)
      rw [List.length_drop] at hle
      have hd : s.drop (a.length + 1 + j) = b.drop j := by
        have : s = (a ++ [32]) ++ b := by rw [hs]; simp
        have e : a.length + 1 + j = (a ++ [32]).length + j := by simp
        rw [this, e, drop_app_r]
      rw [run_step (i := a.length + 1 + j) (by omega), run_step (i := j) hlt, hd]
      by_cases h0 : (sgn (b.drop j)).1 = 0
      · rw [if_pos h0, if_pos h0, if_neg (by intro h; cases h)]
      · rw [if_neg h0, if_neg h0, stepW_pre]
        dsimp only
        by_cases hz : (stepW (sgn (b.drop j)).2 σ).1 = 0
        · rw [if_pos hz, if_pos hz, Nat.add_assoc]
          exact run_right W s hs f _ _ (by omega) (by omega)
        · rw [if_neg hz, if_neg hz, if_neg hz]

theorem words_join (hlen : a.length + b.length ≤ 399) (ha : (wordsW a).2.2 = 0) :
    wordsW (a ++ [32] ++ b) = if (wordsW b).2.2 = 0 then ((wordsW a).1 ++ (wordsW b).1, 0, 0) else ([], a.length + 1 + (wordsW b).2.1, (wordsW b).2.2) := by
  have hs : a ++ [32] ++ b = a ++ (32 :: b) := by simp
  have ea : wordsW a = run a 0 w0 := by unfold wordsW; rw [if_neg (by omega), run_of _ _ _ (by omega)]
  have eb : wordsW b = run b 0 w0 := by unfold wordsW; rw [if_neg (by omega), run_of _ _ _ (by omega)]
  have es : wordsW (a ++ [32] ++ b) = run (a ++ [32] ++ b) 0 w0 := by unfold wordsW; rw [if_neg (by simp; omega), run_of _ _ _ (by omega)]
  rw [ea] at ha
  have h1 := (run_left (b := b) _ hs a.length 0 w0 (by omega) (by omega) w0_ok ha).1
  have h2 := run_right (run a 0 w0).1 _ hs b.length 0 w0 (by omega) (by omega)
  have e0 : pre (run a 0 w0).1 w0 = ⟨(run a 0 w0).1, [], false, false, false, false⟩ := by unfold pre w0; simp
  rw [e0, Nat.add_zero] at h2
  rw [es, h1, h2, ea, eb]
  by_cases hz : (run b 0 w0).2.2 = 0
  · rw [if_pos hz, if_pos hz]
    have hb : (run b 0 w0).2.1 = 0 := (run_left (a := b) (b := []) (b ++ [32]) (by simp) b.length 0 w0 (by omega) (by omega) w0_ok hz).2
    rw [hb]
  · rw [if_neg hz, if_neg hz]

theorem wordsW_at (bs : List UInt8) (h : bs.length ≤ 400) : (wordsW bs).2.1 ≤ 400 := by
  have key : ∀ (f i : Nat) (σ : Wd), i ≤ bs.length → (runW bs f i σ).2.1 ≤ bs.length := by
    intro f
    induction f with
    | zero =>
      intro i σ hi
      show (finW i σ).2.1 ≤ _
      unfold finW
      split
      · exact hi
      · exact Nat.zero_le _
    | succ f ih =>
      intro i σ hi
      unfold runW
      split
      · unfold finW
        split
        · exact hi
        · exact Nat.zero_le _
      · rename_i hl
        have hle := sgn_le (drop_ne (show i < bs.length by omega))
        rw [List.length_drop] at hle
        split
        · exact hi
        · split
          · exact ih _ _ (by omega)
          · exact hi
  unfold wordsW
  rw [if_neg (by omega)]
  have := key bs.length 0 w0 (Nat.zero_le _)
  omega
end

section
variable {B : Am.Heap} {L : List Ast} {H : Am.Heap} {K : V → Am.Heap → Prop}

theorem law_WordJoins (h : Sat B H L) (x0 x1 : ByteArray) (l0 : x0.size ≤ 140737488351232) (l1 : x1.size ≤ 140737488351232) : Am.Rec.call (Am.Run env) 4 [.str x0, .str x1] H fun v _ => v = .bool true := by
  rw [eq4]
  refine sp_awake h (fun H1 h1 => ?_)
  have e0 : x0 = strOf (bytesOf x0) := (strOf_bytesOf x0).symm
  have e1 : x1 = strOf (bytesOf x1) := (strOf_bytesOf x1).symm
  rw [e0] at l0 ⊢
  rw [e1] at l1 ⊢
  rw [strOf_size] at l0 l1
  generalize bytesOf x0 = a at *
  generalize bytesOf x1 = b at *
  have ew : IntKind.i64.wrap ((a.length : Int) + (b.length : Int)) = ((a.length + b.length : Nat) : Int) := by rw [wrap_in (by omega) (by omega)]; omega
  simp only [isK_bool, getBool_bool, req_true, strOf_size, Bool.not_true, Bool.not_false, cond_true, ew]
  by_cases hb : a.length + b.length ≤ 399
  · have d1 : ¬ ((a.length + b.length : Nat) : Int) > 399 := by omega
    simp only [d1, decide_false, br_false]
    refine sp_Words h1 (fun q1 c1 H2 h2 => ?_)
    simp only [isTuple_tuple, vals_tuple, nthV_zero, nthV_one, nthV_two, isK_slice, isK_int, List.length_cons, List.length_nil, Nat.reduceAdd, decide_true, Bool.and_self, Bool.or_false, req_true, slPtr_slice, slLen_slice, slCap_slice, getInt_int]
    refine sp_Words h2 (fun q2 c2 H3 h3 => ?_)
    simp only [isTuple_tuple, vals_tuple, nthV_zero, nthV_one, nthV_two, isK_slice, isK_int, List.length_cons, List.length_nil, Nat.reduceAdd, decide_true, Bool.and_self, Bool.or_false, req_true, slPtr_slice, slLen_slice, slCap_slice, getInt_int]
    rw [joinOk_of (by simp; omega), join_of, joinOk_of (by simp; omega), join_of, req_true, req_true]
    refine sp_Words h3 (fun q3 c3 H4 h4 => ?_)
    simp only [isTuple_tuple, vals_tuple, nthV_zero, nthV_one, nthV_two, isK_slice, isK_int, List.length_cons, List.length_nil, Nat.reduceAdd, decide_true, Bool.and_self, Bool.or_false, req_true, slPtr_slice, slLen_slice, slCap_slice, getInt_int]
    by_cases ha : (wordsW a).2.2 = 0
    · have z1 : (((wordsW a).2.2 : Nat) : Int) = 0 := by omega
      have hj := words_join hb ha
      simp only [z1, decide_true, Bool.not_true, br_false]
      by_cases hbz : (wordsW b).2.2 = 0
      · rw [if_pos hbz] at hj
        have z2 : (((wordsW b).2.2 : Nat) : Int) = 0 := by omega
        have z3 : ((0 : Nat) : Int) = 0 := rfl
        simp only [z2, decide_true, Bool.not_true, br_false]
        have hl1 := wordsW_len a
        have hl2 := wordsW_len b
        have h5 := h4.up 2
        simp only [nthA, outA] at h5
        have r1 := h5.rwRd
        have ap1 := fun K => (h4.rwNil 9 1).rwApp (t := 23) (u := 23) (K := K) (c2 := c1) el_str sl_str str_z rfl (by omega) r1 (st_uni _) (by simp; omega)
        simp only [List.length_nil, List.length_map, Nat.zero_add, List.nil_append] at ap1
        refine ap1 _ (fun q5 c5 H5 h5' => ?_)
        have h6 := h5'.up 2
        simp only [nthA, outA] at h6
        have r2 := h6.rwRd
        have ap2 := fun K => h5'.rwApp (t := 23) (u := 23) (K := K) (c2 := c2) el_str sl_str str_z rfl (by omega) r2 (st_uni _) (by simp; omega)
        simp only [List.length_map] at ap2
        refine ap2 _ (fun q6 c6 H6 h6' => ?_)
        have h7 := h6'.up 1
        simp only [nthA, outA] at h7
        have r3 := h7.rwRd
        have r4 := h6'.rwRd
        rw [← List.map_append] at r4
        rw [hj] at r3 ⊢
        simp only [z3, decide_true, br_true]
        have hs := sp_same (c1 := c3) (c2 := c6) (K := fun v H' => req (V.isK .bool v) (V.bool v.getBool = V.bool true)) r3 r4 (by rw [List.length_append]; omega)
        rw [List.length_append] at hs
        have := hs.symm ▸ (by simp only [joinP_eq, br_true, br_false, req_true, look_cons, look_nil, reduceIte, reduceCtorEq, T_val_v, isKT_k, isKT_agg, isKT_lp, isLK_c, locCells_c, nthV_zero, nthV_one, nthV_two, vals_tuple, aggCells_agg, isAgg_agg, getInt_int, getBool_bool, getStr_str, getPtr_ptr, slPtr_slice, slLen_slice, slCap_slice, isK_int, isK_bool, isK_str, isK_ptr, isK_slice, isTuple_tuple, List.length_cons, List.length_nil, Bool.and_true, Bool.true_and, Bool.or_false, Bool.false_or, Bool.and_self, decide_true, decide_false, Bool.not_true, Bool.not_false, beq_dec, ble_dec, Nat.reduceAdd, Nat.reduceEqDiff, Nat.reduceEqDiff] : req (V.isK .bool (V.bool (decide (((wordsW a).1 ++ (wordsW b).1 : List (List UInt8)) = (wordsW a).1 ++ (wordsW b).1)))) (V.bool (V.bool (decide (((wordsW a).1 ++ (wordsW b).1 : List (List UInt8)) = (wordsW a).1 ++ (wordsW b).1))).getBool = V.bool true))
        rw [List.length_append]
        exact this
      · rw [if_neg hbz] at hj
        have z2 : ¬ (((wordsW b).2.2 : Nat) : Int) = 0 := by omega
        have hat := wordsW_at b (by omega)
        have w1 : IntKind.i64.wrap ((a.length : Int) + 1) = ((a.length + 1 : Nat) : Int) := wrap_succ (by omega)
        have w2 : IntKind.i64.wrap (((a.length + 1 : Nat) : Int) + (((wordsW b).2.1 : Nat) : Int)) = ((a.length + 1 + (wordsW b).2.1 : Nat) : Int) := by rw [wrap_in (by omega) (by omega)]; omega
        simp only [z2, decide_false, Bool.not_false, br_true, w1, w2, hj, decide_true, Bool.and_self]
    · have z1 : ¬ (((wordsW a).2.2 : Nat) : Int) = 0 := by omega
      simp only [z1, decide_false, Bool.not_false, br_true]
  · have d1 : ((a.length + b.length : Nat) : Int) > 399 := by omega
    simp only [d1, decide_true, br_true]
    exact sp_awake h1 (fun H2 h2 => rfl)
end
end Go.Proofs.Ytibkggbidojocaa
