/- The table: which states have the form, what is awake; the code's and the document's functions. -/
import Derived.Test.YtpodpakpgolipaaResvP
import Derived.Test.YtpodpakpgolipaaOct
namespace Go.Proofs.Ytpodpakpgolipaa
open Go.Am
set_option maxRecDepth 100000
set_option linter.unusedSimpArgs false
set_option linter.unusedVariables false
set_option linter.unusedSectionVars false

def someB (k : Nat → Int) : Nat → Bool
  | 0 => false
  | n + 1 => someB k n || !decide (k n = 0)

def oneR (r : R) : Bool := !decide (r.ty = 0) && !all8 r.ty

/-- Has a state the form? -/
def formR (r : R) : Bool :=
  !decide (r.ho < -1) && (!decide (r.ho ≥ 8) && ((decide (r.ty = 0) || right r.ty) && (decide (oneR r = decide (r.ho ≥ 0)) && ((!oneR r || !decide (r.k r.ho.toNat = 0)) && (decide (r.ty = 0) || someB r.k 8)))))

def formD (r : R) : Bool :=
  if r.ty = 0 then decide (r.ho = -1) else if r.ty = 7 ∨ r.ty = 8 then decide (r.ho = -1) && someB r.k 8 else right r.ty && (decide (r.ho ≥ 0) && (decide (r.ho < 8) && !decide (r.k r.ho.toNat = 0)))

def wakeR (r : R) (was now : Int) : R := if was = now then r else if r.la = false then ⟨fun _ => 0, 0, -1, 0, false⟩ else ⟨r.k, r.ty, r.ho, 0, r.la⟩

section
variable (H : Am.Heap) (K : V → Am.Heap → Prop)

theorem lp_Form (r : R) (Kr : St → Prop) (Ke : Nat → St → Prop) : ∀ (n i : Nat), i + n = 8 →
    Am.Rec.loop (Am.Run env) (Am.loopAt env 20 6) 20 6
      (St.mk (Am.look [(1, T.lp 1 0), (3, T.v (V.bool (someB r.k i))), (27, T.v (V.agg (c23 (r.k 0) (r.k 1) (r.k 2) (r.k 3) (r.k 4) (r.k 5) (r.k 6) (r.k 7)))), (28, T.v (V.int .i64 (i : Int)))])
        (Am.look [(1, Loc.cells 25 r.cs)]) H) Kr Ke =
    Ke 0 (St.mk (Am.look [(1, T.lp 1 0), (3, T.v (V.bool (someB r.k 8)))]) (Am.look [(1, Loc.cells 25 r.cs)]) H)
  | 0, i, hi => by
    obtain rfl : i = 8 := by omega
    unfold R.cs
    rw [lp20_6]
    rfl
  | n + 1, i, hi => by
    have e1 : decide ((i : Int) < 8) = true := by simp; omega
    have e2 : decide (0 ≤ (i : Int)) = true := by simp
    have e3 : Int.toNat (i : Int) * 1 = i := by simp
    have e6 : Nat.ble (Nat.succ i) 8 = true := by simp; omega
    have e7 : (bif !someB r.k i then !decide (r.k i = 0) else true) = someB r.k (i + 1) := by rw [someB]; cases someB r.k i <;> rfl
    conv => lhs; unfold R.cs
    rw [lp20_6, wrap_succ (by omega)]
    simp only [e1, e2, e3, e6, nth_keys r.k (show i < 8 by omega), isK_int, getInt_int, br_true, req_true, Bool.and_self, e7]
    exact lp_Form r Kr Ke n (i + 1) (by omega)

theorem sp_Form (r : R) : Am.Rec.call (Am.Run env) 20 [.agg r.cs] H K = K (.bool (formR r)) H := by
  conv => lhs; unfold R.cs
  rw [eq20]
  have hl : ∀ Kr Ke, Am.Rec.loop (Am.Run env) (Am.loopAt env 20 6) 20 6
      (St.mk (Am.look [(1, T.lp 1 0), (3, T.v (V.bool false)), (27, T.v (V.agg (c23 (r.k 0) (r.k 1) (r.k 2) (r.k 3) (r.k 4) (r.k 5) (r.k 6) (r.k 7)))), (28, T.v (V.int .i64 0))])
        (Am.look [(1, Loc.cells 25 r.cs)]) H) Kr Ke = _ := fun Kr Ke => lp_Form H r Kr Ke 8 0 (by omega)
  unfold R.cs at hl
  simp only [joinP_eq, br_true, br_false, req_true, look_cons, look_nil, reduceIte, reduceCtorEq, T_val_v, isKT_k, isKT_agg, isKT_lp, isLK_c, locCells_c, nthV_zero, nthV_one, nthV_two, vals_tuple, aggCells_agg, isAgg_agg, getInt_int, getBool_bool, getStr_str, getPtr_ptr, slPtr_slice, slLen_slice, slCap_slice, isK_int, isK_bool, isK_str, isK_ptr, isK_slice, isTuple_tuple, List.length_cons, List.length_nil, Bool.and_true, Bool.true_and, Bool.or_false, Bool.false_or, Bool.and_self, decide_true, decide_false, Bool.not_true, Bool.not_false, beq_dec, ble_dec, Nat.reduceAdd, Nat.reduceEqDiff, Nat.reduceEqDiff, sp_Right, br_ite, hl, f24, oc24, n24_0, n24_1, n24_2, n24_3, n24_4, n24_5, n24_6, n24_7, n24_8, n24_9, n24_10, n24_11]
  unfold formR
  by_cases h1 : r.ho < -1
  · simp [h1] <;> exact Iff.rfl
  by_cases h2 : r.ho ≥ 8
  · simp [h1, h2] <;> exact Iff.rfl
  have hidx : 0 + Int.toNat r.ho * 1 = Int.toNat r.ho := by omega
  have h3 : r.ho ≤ 11 := by omega
  have h4 : r.ho < 8 := by omega
  have hone : oneR r = (!decide (r.ty = 0) && (!decide (r.ty = 7) && !decide (r.ty = 8))) := by
    unfold oneR all8
    by_cases h7 : r.ty = 7 <;> by_cases h8 : r.ty = 8 <;> simp [h7, h8]
  by_cases h0 : 0 ≤ r.ho
  · have hn := nth_key r (i := r.ho.toNat) (by omega)
    simp only [hidx, hn, isK_int, getInt_int]
    rw [hone]
    by_cases ht : r.ty = 0
    · simp [h1, h2, h0, ht, h3, h4, mergeR_ite] <;> exact Iff.rfl
    · cases hr : right r.ty
      · simp [h1, h2, h0, ht, hr, h3, h4, mergeR_ite] <;> exact Iff.rfl
      · by_cases h7 : r.ty = 7
        · simp [h1, h2, h0, ht, h7, h3, h4, mergeR_ite] <;> exact Iff.rfl
        · by_cases h8 : r.ty = 8
          · simp [h1, h2, h0, ht, h7, h8, h3, h4, mergeR_ite] <;> exact Iff.rfl
          · by_cases hk : r.k r.ho.toNat = 0
            · simp [h1, h2, h0, ht, h7, h8, hk, h3, h4, mergeR_ite] <;> exact Iff.rfl
            · simp [h1, h2, h0, ht, h7, h8, hk, h3, h4, mergeR_ite] <;> exact Iff.rfl
  · rw [hone]
    by_cases ht : r.ty = 0
    · simp [h1, h2, h0, ht, h3, h4, mergeR_ite] <;> exact Iff.rfl
    · cases hr : right r.ty
      · simp [h1, h2, h0, ht, hr, h3, h4, mergeR_ite] <;> exact Iff.rfl
      · by_cases h7 : r.ty = 7
        · simp [h1, h2, h0, ht, h7, h3, h4, mergeR_ite] <;> exact Iff.rfl
        · by_cases h8 : r.ty = 8
          · simp [h1, h2, h0, ht, h7, h8, h3, h4, mergeR_ite] <;> exact Iff.rfl
          · simp [h1, h2, h0, ht, h7, h8, h3, h4, mergeR_ite] <;> exact Iff.rfl

theorem lp_rForm (r : R) (Kr : St → Prop) (Ke : Nat → St → Prop) : ∀ (n i : Nat), i + n = 8 →
    Am.Rec.loop (Am.Run env) (Am.loopAt env 19 3) 19 3
      (St.mk (Am.look [(1, T.lp 1 0), (3, T.v (V.bool (someB r.k i))), (4, T.v (V.int .i64 (i : Int)))])
        (Am.look [(1, Loc.cells 25 r.cs)]) H) Kr Ke =
    Ke 0 (St.mk (Am.look [(1, T.lp 1 0), (3, T.v (V.bool (someB r.k 8)))]) (Am.look [(1, Loc.cells 25 r.cs)]) H)
  | 0, i, hi => by
    obtain rfl : i = 8 := by omega
    unfold R.cs
    rw [lp19_3]
    rfl
  | n + 1, i, hi => by
    have e1 : decide ((i : Int) < 8) = true := by simp; omega
    have e2 : decide (0 ≤ (i : Int)) = true := by simp
    have e3 : 0 + Int.toNat (i : Int) * 1 = i := by simp
    have e6 : Nat.ble (Nat.succ i) 12 = true := by simp; omega
    have e7 : (bif !someB r.k i then !decide (r.k i = 0) else true) = someB r.k (i + 1) := by rw [someB]; cases someB r.k i <;> rfl
    conv => lhs; unfold R.cs
    rw [lp19_3, wrap_succ (by omega)]
    simp only [e1, e2, e3, e6, nth_key r (show i < 8 by omega), isK_int, getInt_int, br_true, req_true, Bool.and_self, e7, mergeR_ite, ite_self]
    exact lp_rForm r Kr Ke n (i + 1) (by omega)

theorem sp_rForm (r : R) : Am.Rec.call (Am.Run env) 19 [.agg r.cs] H K = K (.bool (formD r)) H := by
  conv => lhs; unfold R.cs
  rw [eq19]
  have hl : ∀ Kr Ke, Am.Rec.loop (Am.Run env) (Am.loopAt env 19 3) 19 3
      (St.mk (Am.look [(1, T.lp 1 0), (3, T.v (V.bool false)), (4, T.v (V.int .i64 0))]) (Am.look [(1, Loc.cells 25 r.cs)]) H) Kr Ke = _ := fun Kr Ke => lp_rForm H r Kr Ke 8 0 (by omega)
  unfold R.cs at hl
  simp only [joinP_eq, br_true, br_false, req_true, look_cons, look_nil, reduceIte, reduceCtorEq, T_val_v, isKT_k, isKT_agg, isKT_lp, isLK_c, locCells_c, nthV_zero, nthV_one, nthV_two, vals_tuple, aggCells_agg, isAgg_agg, getInt_int, getBool_bool, getStr_str, getPtr_ptr, slPtr_slice, slLen_slice, slCap_slice, isK_int, isK_bool, isK_str, isK_ptr, isK_slice, isTuple_tuple, List.length_cons, List.length_nil, Bool.and_true, Bool.true_and, Bool.or_false, Bool.false_or, Bool.and_self, decide_true, decide_false, Bool.not_true, Bool.not_false, beq_dec, ble_dec, Nat.reduceAdd, Nat.reduceEqDiff, Nat.reduceEqDiff, sp_rRight, br_ite, hl, f24, oc24, n24_0, n24_1, n24_2, n24_3, n24_4, n24_5, n24_6, n24_7, n24_8, n24_9, n24_10, n24_11]
  unfold formD
  have hidx : 0 + Int.toNat r.ho * 1 = Int.toNat r.ho := by omega
  by_cases ht : r.ty = 0
  · simp [ht] <;> exact Iff.rfl
  by_cases h7 : r.ty = 7
  · simp [ht, h7] <;> exact Iff.rfl
  by_cases h8 : r.ty = 8
  · simp [ht, h7, h8] <;> exact Iff.rfl
  by_cases hh : 0 ≤ r.ho ∧ r.ho < 8
  · have hn := nth_key r (i := r.ho.toNat) (by omega)
    simp only [hidx, hn, isK_int, getInt_int]
    have h3 : r.ho ≤ 11 := by omega
    simp [ht, h7, h8, hh.1, hh.2, h3, mergeR_ite] <;> exact Iff.rfl
  · have h9 : (decide (r.ho ≥ 0) && decide (r.ho < 8)) = false := by
      by_cases h0 : 0 ≤ r.ho
      · have : ¬ r.ho < 8 := fun h => hh ⟨h0, h⟩
        simp [this]
      · simp [h0]
    by_cases h0 : 0 ≤ r.ho
    · have : ¬ r.ho < 8 := fun h => hh ⟨h0, h⟩
      simp [ht, h7, h8, h0, this, mergeR_ite] <;> exact Iff.rfl
    · simp [ht, h7, h8, h0, mergeR_ite] <;> exact Iff.rfl

theorem sp_Wake (r : R) (was now : Int) : Am.Rec.call (Am.Run env) 13 [.agg r.cs, .int .i64 was, .int .i64 now] H K = K (.agg (wakeR r was now).cs) H := by
  conv => lhs; unfold R.cs
  rw [eq13]
  simp only [joinP_eq, br_true, br_false, req_true, look_cons, look_nil, reduceIte, reduceCtorEq, T_val_v, isKT_k, isKT_agg, isKT_lp, isLK_c, locCells_c, nthV_zero, nthV_one, nthV_two, vals_tuple, aggCells_agg, isAgg_agg, getInt_int, getBool_bool, getStr_str, getPtr_ptr, slPtr_slice, slLen_slice, slCap_slice, isK_int, isK_bool, isK_str, isK_ptr, isK_slice, isTuple_tuple, List.length_cons, List.length_nil, Bool.and_true, Bool.true_and, Bool.or_false, Bool.false_or, Bool.and_self, decide_true, decide_false, Bool.not_true, Bool.not_false, beq_dec, ble_dec, Nat.reduceAdd, Nat.reduceEqDiff, Nat.reduceEqDiff, sp_None, R.fits_cs, R.open_cs]
  unfold wakeR
  by_cases h : was = now
  · simp [h] <;> exact Iff.rfl
  · cases hl : r.la <;> simp [h] <;> exact Iff.rfl

theorem sp_rWake (r : R) (was now : Int) : Am.Rec.call (Am.Run env) 15 [.agg r.cs, .int .i64 was, .int .i64 now] H K = K (.agg (wakeR r was now).cs) H := by
  conv => lhs; unfold R.cs
  rw [eq15]
  unfold wakeR
  by_cases h : was = now
  · simp [h] <;> exact Iff.rfl
  · cases hl : r.la <;> simp [h] <;> exact Iff.rfl

end

theorem right_iff {t : Int} : right t = true ↔ t = 1 ∨ t = 3 ∨ t = 5 ∨ t = 6 ∨ t = 7 ∨ t = 8 := by
  unfold right
  simp [or_assoc]

theorem someB_iff {k : Nat → Int} : ∀ {n : Nat}, someB k n = true ↔ ∃ i, i < n ∧ k i ≠ 0
  | 0 => by simp [someB]
  | n + 1 => by
    rw [someB, Bool.or_eq_true, someB_iff]
    constructor
    · rintro (⟨i, h1, h2⟩ | h)
      · exact ⟨i, by omega, h2⟩
      · exact ⟨n, by omega, by simpa using h⟩
    · rintro ⟨i, h1, h2⟩
      by_cases hn : i = n
      · subst hn; right; simpa using h2
      · left; exact ⟨i, by omega, h2⟩

theorem form_eq (r : R) : formR r = formD r := by
  unfold formR formD oneR all8
  by_cases t0 : r.ty = 0
  · simp [t0]
    by_cases h : r.ho = -1
    · simp [h]
    · simp [h]; omega
  by_cases t7 : r.ty = 7
  · have : right 7 = true := rfl
    simp [t7, this]
    by_cases h : r.ho = -1
    · simp [h]
    · simp [h]; omega
  by_cases t8 : r.ty = 8
  · have : right 8 = true := rfl
    simp [t8, this]
    by_cases h : r.ho = -1
    · simp [h]
    · simp [h]; omega
  simp [t0, t7, t8]
  cases hr : right r.ty
  · simp
  · simp
    by_cases h0 : 0 ≤ r.ho
    · by_cases h8 : r.ho < 8
      · by_cases hk : r.k r.ho.toNat = 0
        · simp [hk]
        · have : someB r.k 8 = true := someB_iff.2 ⟨r.ho.toNat, by omega, hk⟩
          have h1 : -1 ≤ r.ho := by omega
          simp [h0, h8, hk, this, h1]
      · simp [h8]
    · simp [h0]

end Go.Proofs.Ytpodpakpgolipaa
