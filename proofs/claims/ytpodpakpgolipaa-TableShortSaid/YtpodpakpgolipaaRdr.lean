/- The reader: numbers out of bytes, one behind the other. -/
import Derived.Test.YtpodpakpgolipaaOct
namespace Go.Proofs.Ytpodpakpgolipaa
open Go.Am
set_option maxRecDepth 100000
set_option linter.unusedSimpArgs false
set_option linter.unusedVariables false
set_option linter.unusedSectionVars false

/-- What a reader has before it; whether it has seen a fault. -/
structure RS where
  bs : List UInt8
  bad : Bool

def RS.take (s : RS) (n : Nat) : List UInt8 × RS :=
  if s.bad = true ∨ s.bs.length < n then ([], ⟨s.bs, true⟩) else (s.bs.take n, ⟨s.bs.drop n, false⟩)

def RS.num (s : RS) (size most : Nat) : Nat × RS :=
  if unle (s.take size).1 > most then (0, ⟨(s.take size).2.bs, true⟩) else (unle (s.take size).1, (s.take size).2)

structure RdrAt (B H : Am.Heap) (L : List Ast) (id : Nat) (s : RS) : Prop where
  ex : ∃ q c, s.bs.length ≤ c ∧ Rds B L q s.bs ∧ Sat B H (blk id 92 (c91 q s.bs.length c s.bad) :: L)

section
variable {B : Am.Heap} {L : List Ast} {H : Am.Heap} {K : V → Am.Heap → Prop} {q : Option (Nat × Nat)} {cap : Nat} {bs : List UInt8} {id : Nat} {s : RS}

theorem sp_Read (h : Sat B H L) (hr : Rds B L q bs) (hc : bs.length ≤ cap) (k : ∀ id H', RdrAt B H' L id ⟨bs, false⟩ → K (.ptr (some (id, 0))) H') :
    Am.Rec.call (Am.Run env) 38 [.slice q bs.length cap] H K := by
  rw [eq38]
  exact k _ _ ⟨q, cap, hc, hr, h.alloc _ _⟩

theorem sp_Rtake (h : RdrAt B H L id s) (n : Nat)
    (k : ∀ q' c' H', RdrAt B H' L id (s.take n).2 → Rds B L q' (s.take n).1 → (s.take n).1.length ≤ c' → K (.slice q' (s.take n).1.length c') H') :
    Am.Rec.call (Am.Run env) 55 [.ptr (some (id, 0)), .int .i64 (n : Int)] H K := by
  obtain ⟨q, c, hc, hr, hs⟩ := h.ex
  have hg := hs.get
  rw [eq55]
  simp only [joinP_eq, br_true, br_false, req_true, look_cons, look_nil, reduceIte, reduceCtorEq, T_val_v, isKT_k, isKT_agg, isKT_lp, isLK_c, locCells_c, nthV_zero, nthV_one, nthV_two, vals_tuple, aggCells_agg, isAgg_agg, getInt_int, getBool_bool, getStr_str, getPtr_ptr, slPtr_slice, slLen_slice, slCap_slice, isK_int, isK_bool, isK_str, isK_ptr, isK_slice, isTuple_tuple, List.length_cons, List.length_nil, Bool.and_true, Bool.true_and, Bool.or_false, Bool.false_or, Bool.and_self, decide_true, decide_false, Bool.not_true, Bool.not_false, beq_dec, ble_dec, Nat.reduceAdd, Nat.reduceEqDiff, Nat.reduceEqDiff, Option.isSome_some, Option.getD_some, inb_get hg, cell_get hg, wr_get hg, mergeR_ite, Nat.zero_add]
  unfold RS.take at k
  by_cases hb : s.bad = true ∨ s.bs.length < n
  · rw [if_pos hb] at k
    have e : (bif !s.bad then decide ((n : Int) > (s.bs.length : Int)) else true) = true := by
      rcases hb with hb | hb
      · rw [hb]; rfl
      · cases s.bad
        · simp; omega
        · rfl
    have h2 : Sat B (H.store id 1 [.bool true]) (blk id 92 (c91 q s.bs.length c true) :: L) := hs.store
    have := k none 0 _ ⟨q, c, hc, hr, h2⟩ (Rds.nil _ _ _) (by simp)
    have e2 : (s.bad || decide (s.bs.length < n)) = true := by simpa using hb
    simpa [c91, nthV, e2, joinP_eq, br_true, br_false, req_true, look_cons, look_nil, reduceIte, reduceCtorEq, T_val_v, isKT_k, isKT_agg, isKT_lp, isLK_c, locCells_c, nthV_zero, nthV_one, nthV_two, vals_tuple, aggCells_agg, isAgg_agg, getInt_int, getBool_bool, getStr_str, getPtr_ptr, slPtr_slice, slLen_slice, slCap_slice, isK_int, isK_bool, isK_str, isK_ptr, isK_slice, isTuple_tuple, List.length_cons, List.length_nil, Bool.and_true, Bool.true_and, Bool.or_false, Bool.false_or, Bool.and_self, decide_true, decide_false, Bool.not_true, Bool.not_false, beq_dec, ble_dec, Nat.reduceAdd, Nat.reduceEqDiff, Nat.reduceEqDiff] using this
  · rw [if_neg hb] at k
    have hb1 : s.bad = false := by cases h : s.bad <;> simp_all
    have hb2 : n ≤ s.bs.length := by omega
    have h2 : Sat B (H.store id 0 [.slice (ptrAdd q n) (s.bs.length - n) (c - n)]) (blk id 92 (c91 (ptrAdd q n) (s.bs.length - n) (c - n) s.bad) :: L) := hs.store
    have h3 := hr.part n (s.bs.length - n) (by omega)
    have h4 := hr.part 0 n (by omega)
    rw [List.drop_zero, ptrAdd_zero] at h4
    have e3 : ((s.bs.drop n).take (s.bs.length - n)) = s.bs.drop n := List.take_of_length_le (by simp)
    rw [e3] at h3
    have hl : (s.bs.take n).length = n := by simp; omega
    have := k q n _ ⟨ptrAdd q n, c - n, by simp; omega, h3, by simpa [hb1] using h2⟩ h4 (by simp; omega)
    have e5 : ¬ (n : Int) > (s.bs.length : Int) := by omega
    have e6 : (n : Int) ≤ (c : Int) := by omega
    have e7 : (n : Int) ≤ (s.bs.length : Int) := by omega
    rw [hl] at this
    simpa [c91, nthV, hb1, e5, e6, e7, hc, joinP_eq, br_true, br_false, req_true, look_cons, look_nil, reduceIte, reduceCtorEq, T_val_v, isKT_k, isKT_agg, isKT_lp, isLK_c, locCells_c, nthV_zero, nthV_one, nthV_two, vals_tuple, aggCells_agg, isAgg_agg, getInt_int, getBool_bool, getStr_str, getPtr_ptr, slPtr_slice, slLen_slice, slCap_slice, isK_int, isK_bool, isK_str, isK_ptr, isK_slice, isTuple_tuple, List.length_cons, List.length_nil, Bool.and_true, Bool.true_and, Bool.or_false, Bool.false_or, Bool.and_self, decide_true, decide_false, Bool.not_true, Bool.not_false, beq_dec, ble_dec, Nat.reduceAdd, Nat.reduceEqDiff, Nat.reduceEqDiff] using this

theorem sp_Num (h : RdrAt B H L id s) (size most : Nat) (hs : size ≤ 8)
    (k : ∀ H', RdrAt B H' L id (s.num size most).2 → K (.int .u64 ((s.num size most).1 : Nat)) H') :
    Am.Rec.call (Am.Run env) 39 [.ptr (some (id, 0)), .int .i64 (size : Int), .int .u64 (most : Int)] H K := by
  rw [eq39, Option.isNone_some, br_false]
  refine sp_Rtake h size (fun q' c' H' h' hr' hc' => ?_)
  have hl : (s.take size).1.length ≤ 8 := by unfold RS.take; split <;> simp; omega
  obtain ⟨q2, c2, hc2, hr2, hs2⟩ := h'.ex
  simp only [joinP_eq, br_true, br_false, req_true, look_cons, look_nil, reduceIte, reduceCtorEq, T_val_v, isKT_k, isKT_agg, isKT_lp, isLK_c, locCells_c, nthV_zero, nthV_one, nthV_two, vals_tuple, aggCells_agg, isAgg_agg, getInt_int, getBool_bool, getStr_str, getPtr_ptr, slPtr_slice, slLen_slice, slCap_slice, isK_int, isK_bool, isK_str, isK_ptr, isK_slice, isTuple_tuple, List.length_cons, List.length_nil, Bool.and_true, Bool.true_and, Bool.or_false, Bool.false_or, Bool.and_self, decide_true, decide_false, Bool.not_true, Bool.not_false, beq_dec, ble_dec, Nat.reduceAdd, Nat.reduceEqDiff, Nat.reduceEqDiff]
  rw [sp_Get (hr' H' hs2.drop) hl]
  simp only [joinP_eq, br_true, br_false, req_true, look_cons, look_nil, reduceIte, reduceCtorEq, T_val_v, isKT_k, isKT_agg, isKT_lp, isLK_c, locCells_c, nthV_zero, nthV_one, nthV_two, vals_tuple, aggCells_agg, isAgg_agg, getInt_int, getBool_bool, getStr_str, getPtr_ptr, slPtr_slice, slLen_slice, slCap_slice, isK_int, isK_bool, isK_str, isK_ptr, isK_slice, isTuple_tuple, List.length_cons, List.length_nil, Bool.and_true, Bool.true_and, Bool.or_false, Bool.false_or, Bool.and_self, decide_true, decide_false, Bool.not_true, Bool.not_false, beq_dec, ble_dec, Nat.reduceAdd, Nat.reduceEqDiff, Nat.reduceEqDiff]
  unfold RS.num at k
  by_cases hm : unle (s.take size).1 > most
  · rw [if_pos hm] at k
    have hg := hs2.get
    have h3 : Sat B (H'.store id 1 [.bool true]) (blk id 92 (c91 q2 (s.take size).2.bs.length c2 true) :: L) := hs2.store
    have := k _ ⟨q2, c2, hc2, hr2, h3⟩
    have e1 : ((unle (s.take size).1 : Nat) : Int) > (most : Int) := by omega
    simpa [e1, wr_get hg, c91] using this
  · rw [if_neg hm] at k
    have e1 : ¬ ((unle (s.take size).1 : Nat) : Int) > (most : Int) := by omega
    have := k _ h'
    simpa [e1] using this

theorem sp_End (h : RdrAt B H L id s) : Am.Rec.call (Am.Run env) 40 [.ptr (some (id, 0))] H K = K (.bool (!s.bad && decide (s.bs = []))) H := by
  obtain ⟨q, c, hc, hr, hs⟩ := h.ex
  have hg := hs.get
  rw [eq40]
  simp only [joinP_eq, br_true, br_false, req_true, look_cons, look_nil, reduceIte, reduceCtorEq, T_val_v, isKT_k, isKT_agg, isKT_lp, isLK_c, locCells_c, nthV_zero, nthV_one, nthV_two, vals_tuple, aggCells_agg, isAgg_agg, getInt_int, getBool_bool, getStr_str, getPtr_ptr, slPtr_slice, slLen_slice, slCap_slice, isK_int, isK_bool, isK_str, isK_ptr, isK_slice, isTuple_tuple, List.length_cons, List.length_nil, Bool.and_true, Bool.true_and, Bool.or_false, Bool.false_or, Bool.and_self, decide_true, decide_false, Bool.not_true, Bool.not_false, beq_dec, ble_dec, Nat.reduceAdd, Nat.reduceEqDiff, Nat.reduceEqDiff, Option.isSome_some, Option.isNone_some, Option.getD_some, inb_get hg, cell_get hg, wr_get hg, mergeR_ite, Nat.zero_add]
  have e : decide ((s.bs.length : Int) = 0) = decide (s.bs = []) := by
    cases s.bs
    · simp
    · simp; omega
  simp only [c91, nthV_zero, nthV_one, getBool_bool, slLen_slice, e]
  simp [joinP_eq, br_true, br_false, req_true, look_cons, look_nil, reduceIte, reduceCtorEq, T_val_v, isKT_k, isKT_agg, isKT_lp, isLK_c, locCells_c, nthV_zero, nthV_one, nthV_two, vals_tuple, aggCells_agg, isAgg_agg, getInt_int, getBool_bool, getStr_str, getPtr_ptr, slPtr_slice, slLen_slice, slCap_slice, isK_int, isK_bool, isK_str, isK_ptr, isK_slice, isTuple_tuple, List.length_cons, List.length_nil, Bool.and_true, Bool.true_and, Bool.or_false, Bool.false_or, Bool.and_self, decide_true, decide_false, Bool.not_true, Bool.not_false, beq_dec, ble_dec, Nat.reduceAdd, Nat.reduceEqDiff, Nat.reduceEqDiff]

end

/-- Nothing is wrong, and there is enough. -/
theorem num_good {bs : List UInt8} {size most : Nat} (h1 : size ≤ bs.length) (h2 : unle (bs.take size) ≤ most) : (RS.mk bs false).num size most = (unle (bs.take size), ⟨bs.drop size, false⟩) := by
  have : ¬ bs.length < size := by omega
  simp [RS.num, RS.take, this]
  omega

theorem num_much {bs : List UInt8} {size most : Nat} (h1 : size ≤ bs.length) (h2 : unle (bs.take size) > most) : (RS.mk bs false).num size most = (0, ⟨bs.drop size, true⟩) := by
  have : ¬ bs.length < size := by omega
  simp [RS.num, RS.take, this]
  omega

theorem num_short {bs : List UInt8} {size most : Nat} (h1 : bs.length < size) : (RS.mk bs false).num size most = (0, ⟨bs, true⟩) := by
  simp [RS.num, RS.take, h1, unle]

theorem num_bad {s : RS} {size most : Nat} (h : s.bad = true) : (s.num size most).2.bad = true := by
  simp [RS.num, RS.take, h, unle]

theorem num_bad_len {s : RS} {size most : Nat} (h : (s.num size most).2.bad = false) : s.bad = false ∧ size ≤ s.bs.length ∧ unle (s.bs.take size) ≤ most ∧ s.num size most = (unle (s.bs.take size), ⟨s.bs.drop size, false⟩) := by
  obtain ⟨bs, bad⟩ := s
  have hb : bad = false := by
    cases bad
    · rfl
    · rw [num_bad rfl] at h; cases h
  subst hb
  by_cases h1 : size ≤ bs.length
  · by_cases h2 : unle (bs.take size) ≤ most
    · exact ⟨rfl, h1, h2, num_good h1 h2⟩
    · rw [num_much h1 (by omega)] at h; cases h
  · rw [num_short (by omega)] at h; cases h

end Go.Proofs.Ytpodpakpgolipaa
