/- The document's words of a line; the example. -/
import Derived.Test.YtibkggbidojocaaDoorWordI
import Derived.Test.YtibkggbidojocaaDoorAmIn
namespace Go.Proofs.YtibkggbidojocaaDoor
open Go.Am Go.Lib
set_option maxRecDepth 100000
set_option linter.unusedSimpArgs false
set_option linter.unusedVariables false
set_option linter.unusedSectionVars false

section

variable {B : Am.Heap} {L : List Ast} {H : Am.Heap} {K : V → Am.Heap → Prop} {bs : List UInt8}

theorem words_lit : wordsW [119, 114, 105, 116, 101, 32, 51, 32, 34, 97, 32, 98, 34] = ([[119, 114, 105, 116, 101], [51], [97, 32, 98]], 0, 0) := by decide +kernel

theorem finW_len (i : Nat) (σ : Wd) : (finW i σ).1.length ≤ σ.ws.length + 1 := by
  unfold finW
  split
  · exact Nat.zero_le _
  · exact (endW_len σ).1

theorem runW_len : ∀ (f i : Nat) (σ : Wd), (runW bs f i σ).1.length ≤ σ.ws.length + f + 1
  | 0, i, σ => finW_len i σ
  | f + 1, i, σ => by
    unfold runW
    split
    · have := finW_len i σ; omega
    · split
      · exact Nat.zero_le _
      · split
        · rename_i hz
          have h1 := runW_len f (i + (sgn (bs.drop i)).1) (stepW (sgn (bs.drop i)).2 σ).2
          have h2 := (stepW_ok hz).1
          omega
        · exact Nat.zero_le _

theorem wordsW_len (bs : List UInt8) : (wordsW bs).1.length ≤ 401 := by
  unfold wordsW
  split
  · exact Nat.zero_le _
  · have := runW_len (bs := bs) bs.length 0 w0
    have e : w0.ws.length = 0 := rfl
    omega

/-- The document's example. -/
theorem sp_awake (h : Sat B H L) (k : ∀ H', Sat B H' L → K (.bool true) H') : Am.Rec.call (Am.Run env) 7 [] H K := by
  rw [eq7]
  refine sp_Words h (fun q c H' h' => ?_)
  rw [words_lit] at h' ⊢
  obtain ⟨a1, a2, a3⟩ := rd_cell h'.rwRd (st_uni _) (i := 2) (k := 0) (by decide) (by omega)
  have a4 : nthV (([[119, 114, 105, 116, 101], [51], [97, 32, 98]] : List (List UInt8)).map st)[2] 0 = .str (strOf [97, 32, 98]) := rfl
  rw [a4] at a3
  simp only [Nat.add_zero, Nat.mul_one] at a2 a3
  have d1 : (((3 : Nat) : Int) = 3) := rfl
  have d2 : ((2 : Int) < ((3 : Nat) : Int)) := by omega
  have d3 : (((0 : Nat) : Int) = 0) := rfl
  simp only [joinP_eq, br_true, br_false, req_true, look_cons, look_nil, reduceIte, reduceCtorEq, T_val_v, isKT_k, isKT_agg, isKT_lp, isLK_c, locCells_c, nthV_zero, nthV_one, nthV_two, vals_tuple, aggCells_agg, isAgg_agg, getInt_int, getBool_bool, getStr_str, getPtr_ptr, slPtr_slice, slLen_slice, slCap_slice, isK_int, isK_bool, isK_str, isK_ptr, isK_slice, isTuple_tuple, List.length_cons, List.length_nil, Bool.and_true, Bool.true_and, Bool.or_false, Bool.false_or, Bool.and_self, decide_true, decide_false, Bool.not_true, Bool.not_false, beq_dec, ble_dec, Nat.reduceAdd, Nat.reduceEqDiff, Nat.reduceEqDiff, a1, a2, a3, d1, d2, d3, strEq_of, mergeR_ite, Bool.true_or]
  exact k H' h'.drop

/-! ### the laws -/

end

end Go.Proofs.YtibkggbidojocaaDoor
