/- The laws of reservations, of what the code comes to. -/
import Derived.Test.YtmoopebmajefkaaResvP
namespace Go.Proofs.Ytmoopebmajefkaa
open Go.Am
set_option maxRecDepth 100000

theorem Cm.fold' (kd lba : Int) (dp : Option (Nat × Nat)) (dn dc : Nat) (su : Bool) (ky nw ty : Int) (la : Bool) :
    c25 kd lba dp dn dc su ky nw ty la = Cm.cs ⟨kd, lba, dp, dn, dc, su, ky, nw, ty, la⟩ := rfl

def none0 : R := ⟨fun _ => 0, 0, -1, 0, false⟩

section
variable (H : Am.Heap) (K : V → Am.Heap → Prop)

theorem sp_awake : Am.Rec.call (Am.Run env) 10 [] H K = K (.bool true) H := by
  rw [eq10]
  simp only [joinP_eq, br_true, br_false, req_true, look_cons, look_nil, reduceIte, reduceCtorEq, T_val_v, isKT_k, isKT_agg, isKT_lp, isLK_c, locCells_c, nthV_zero, nthV_one, nthV_two, vals_tuple, aggCells_agg, isAgg_agg, getInt_int, getBool_bool, getStr_str, getPtr_ptr, slPtr_slice, slLen_slice, slCap_slice, isK_int, isK_bool, isK_str, isK_ptr, isK_slice, isTuple_tuple, List.length_cons, List.length_nil, Bool.and_true, Bool.true_and, Bool.or_false, Bool.false_or, Bool.and_self, decide_true, decide_false, Bool.not_true, Bool.not_false, beq_dec, ble_dec, Nat.reduceAdd, Nat.reduceEqDiff, Nat.reduceEqDiff, sp_None, Cm.fold', sp_Do, sp_Permits, R.fits_cs, R.open_cs]
  kernel_rfl

theorem law_ResvTable (x0 : Int) (x1 : Bool) (h0 : 0 ≤ x0) (h1 : x0 ≤ 255) : Am.Rec.call (Am.Run env) 8 [.int .u8 x0, .bool x1] H fun v _ => v = .bool true := by
  rw [eq8, wrap_in (by omega) (by omega)]
  simp only [joinP_eq, br_true, br_false, req_true, look_cons, look_nil, reduceIte, reduceCtorEq, T_val_v, isKT_k, isKT_agg, isKT_lp, isLK_c, locCells_c, nthV_zero, nthV_one, nthV_two, vals_tuple, aggCells_agg, isAgg_agg, getInt_int, getBool_bool, getStr_str, getPtr_ptr, slPtr_slice, slLen_slice, slCap_slice, isK_int, isK_bool, isK_str, isK_ptr, isK_slice, isTuple_tuple, List.length_cons, List.length_nil, Bool.and_true, Bool.true_and, Bool.or_false, Bool.false_or, Bool.and_self, decide_true, decide_false, Bool.not_true, Bool.not_false, beq_dec, ble_dec, Nat.reduceAdd, Nat.reduceEqDiff, Nat.reduceEqDiff, sp_awake, sp_Types, sp_None, Cm.fold', sp_Do, sp_Permits, sp_rPermits, R.fits_cs, R.open_cs]
  have ht : Int.tmod x0 6 = 0 ∨ Int.tmod x0 6 = 1 ∨ Int.tmod x0 6 = 2 ∨ Int.tmod x0 6 = 3 ∨ Int.tmod x0 6 = 4 ∨ Int.tmod x0 6 = 5 := by
    have := Int.tmod_eq_emod_of_nonneg (a := x0) (b := 6) h0
    omega
  rcases ht with h | h | h | h | h | h <;> rw [h] <;> cases x1 <;> exact Eq.mpr (by kernel_rfl : _ = (V.bool true = V.bool true)) rfl

end

end Go.Proofs.Ytmoopebmajefkaa
