/- The reader's step at a sign. -/
import Derived.Test.YtibkggbidojocaaDoorWordE
namespace Go.Proofs.YtibkggbidojocaaDoor
open Go.Am Go.Lib
set_option maxRecDepth 100000
set_option linter.unusedSimpArgs false
set_option linter.unusedVariables false
set_option linter.unusedSectionVars false

/-! ### strings.IndexRune in "\"\\nt" -/

def idxE (r : Nat) : Int := if r = 34 then 0 else if r = 92 then 1 else if r = 110 then 2 else if r = 116 then 3 else -1

theorem ext_ib (args : List V) (H : Am.Heap) (K : V → Am.Heap → Prop) : extCall env 58 args H K = ibRun args H K := by kernel_rfl

theorem idx_low : ∀ n : Fin 128, idxB (strOf [34, 92, 110, 116]) (UInt8.ofNat n.val) = idxE n.val := by decide +kernel
theorem idx_hi1 : ∀ n : Fin 256, 128 ≤ n.val → idxB (strOf [110, 116]) (UInt8.ofNat n.val) = -1 := by decide +kernel
theorem idx_hi2 : ∀ n : Fin 256, 128 ≤ n.val → idxB (strOf [116]) (UInt8.ofNat n.val) = -1 := by decide +kernel
theorem idx_hi3 : ∀ n : Fin 256, 128 ≤ n.val → idxB (strOf []) (UInt8.ofNat n.val) = -1 := by decide +kernel

theorem utf8_enc {r : Nat} (h1 : r ≤ 1114111) (h2 : ¬ (55296 ≤ r ∧ r < 57344)) : Utf8.encode (r : Int) = strOf (encodeRune (r : Int)) := by
  have hv : Utf8.valid (r : Int) = true := by unfold Utf8.valid; simp; omega
  have hb : ∀ z : Int, 0 ≤ z → ∀ n : Nat, (n : Int) = z → UInt8.ofNat n = z.toNat.toUInt8 := fun z hz n hn => by
    subst hn; rfl
  unfold Utf8.encode
  rw [hv]
  simp only [if_true, Int.toNat_natCast]
  have hcase : r < 128 ∨ (128 ≤ r ∧ r < 2048) ∨ (2048 ≤ r ∧ r < 65536) ∨ 65536 ≤ r := by omega
  rcases hcase with c | c | c | c
  · rw [if_pos c]
    unfold encodeRune
    rw [encodeRuneZ_one (by omega) (by omega)]
    simp only [List.map_cons, List.map_nil, strOf, hb (r : Int) (by omega) r rfl]
  · rw [if_neg (by omega), if_pos (by omega)]
    unfold encodeRune
    rw [encodeRuneZ_two (by omega) (by omega)]
    simp only [List.map_cons, List.map_nil, strOf]
    rw [hb (192 + (r : Int) / 64) (by omega) _ (by omega), hb (128 + (r : Int) % 64) (by omega) _ (by omega)]
  · rw [if_neg (by omega), if_neg (by omega), if_pos (by omega)]
    unfold encodeRune
    rw [encodeRuneZ_three (by omega)]
    simp only [List.map_cons, List.map_nil, strOf]
    rw [hb (224 + (r : Int) / 4096) (by omega) _ (by omega), hb (128 + (r : Int) / 64 % 64) (by omega) _ (by omega), hb (128 + (r : Int) % 64) (by omega) _ (by omega)]
  · rw [if_neg (by omega), if_neg (by omega), if_neg (by omega)]
    unfold encodeRune
    rw [encodeRuneZ_four (by omega) (by omega)]
    simp only [List.map_cons, List.map_nil, strOf]
    rw [hb (240 + (r : Int) / 262144) (by omega) _ (by omega), hb (128 + (r : Int) / 4096 % 64) (by omega) _ (by omega), hb (128 + (r : Int) / 64 % 64) (by omega) _ (by omega), hb (128 + (r : Int) % 64) (by omega) _ (by omega)]

/-- The last byte of a sign beyond 127. -/
theorem enc_last {r : Nat} (h0 : 128 ≤ r) (h1 : r ≤ 1114111) (h2 : ¬ (55296 ≤ r ∧ r < 57344)) :
    2 ≤ (encodeRune (r : Int)).length ∧ (encodeRune (r : Int)).length ≤ 4 ∧ bAt (encodeRune (r : Int)) ((encodeRune (r : Int)).length - 1) = 128 + r % 64 := by
  have hb : ∀ z : Int, 0 ≤ z → z < 256 → (z.toNat.toUInt8).toNat = z.toNat := fun z a b => by
    show (UInt8.ofNat z.toNat).toNat = _
    rw [UInt8.toNat_ofNat']; omega
  have hcase : (128 ≤ r ∧ r < 2048) ∨ (2048 ≤ r ∧ r < 65536) ∨ 65536 ≤ r := by omega
  unfold encodeRune bAt
  rcases hcase with c | c | c
  · rw [encodeRuneZ_two (by omega) (by omega)]
    refine ⟨by simp, by simp, ?_⟩
    simp only [List.map_cons, List.map_nil, List.length_cons, List.length_nil, Nat.reduceAdd, Nat.reduceSub, List.getD_cons_succ, List.getD_cons_zero]
    rw [hb _ (by omega) (by omega)]; omega
  · rw [encodeRuneZ_three (by omega)]
    refine ⟨by simp, by simp, ?_⟩
    simp only [List.map_cons, List.map_nil, List.length_cons, List.length_nil, Nat.reduceAdd, Nat.reduceSub, List.getD_cons_succ, List.getD_cons_zero]
    rw [hb _ (by omega) (by omega)]; omega
  · rw [encodeRuneZ_four (by omega) (by omega)]
    refine ⟨by simp, by simp, ?_⟩
    simp only [List.map_cons, List.map_nil, List.length_cons, List.length_nil, Nat.reduceAdd, Nat.reduceSub, List.getD_cons_succ, List.getD_cons_zero]
    rw [hb _ (by omega) (by omega)]; omega

section

variable {H : Am.Heap} {K : V → Am.Heap → Prop}

theorem sp_IndexByte (s : ByteArray) (c : Nat) (hc : c < 256) : Am.Rec.call (Am.Run env) 46 [.str s, .int .u8 (c : Int)] H K = K (.int .i64 (idxB s (UInt8.ofNat c))) H := by
  rw [eq46, eq55, ext_ib]
  simp only [ibRun, joinP_eq, br_true, br_false, req_true, look_cons, look_nil, reduceIte, reduceCtorEq, T_val_v, isKT_k, isKT_agg, isKT_lp, isLK_c, locCells_c, nthV_zero, nthV_one, nthV_two, vals_tuple, aggCells_agg, isAgg_agg, getInt_int, getBool_bool, getStr_str, getPtr_ptr, slPtr_slice, slLen_slice, slCap_slice, isK_int, isK_bool, isK_str, isK_ptr, isK_slice, isTuple_tuple, List.length_cons, List.length_nil, Bool.and_true, Bool.true_and, Bool.or_false, Bool.false_or, Bool.and_self, decide_true, decide_false, Bool.not_true, Bool.not_false, beq_dec, ble_dec, Nat.reduceAdd, Nat.reduceEqDiff, Nat.reduceEqDiff, Int.toNat_natCast]

theorem dec_lit0 : Utf8.decode (strOf [34, 92, 110, 116]) 0 = (34, 1) := by decide +kernel
theorem dec_lit1 : Utf8.decode (strOf [34, 92, 110, 116]) 1 = (92, 1) := by decide +kernel
theorem dec_lit2 : Utf8.decode (strOf [34, 92, 110, 116]) 2 = (110, 1) := by decide +kernel
theorem dec_lit3 : Utf8.decode (strOf [34, 92, 110, 116]) 3 = (116, 1) := by decide +kernel

theorem idx_it {pos c : Nat} (hd : Utf8.decode (strOf [34, 92, 110, 116]) pos = (c, 1)) (hp : pos < 4) (hc : c ≠ 65533) {Kr : St → Prop} {Ke : Nat → St → Prop} :
    Am.Rec.loop (Am.Run env) (loopAt env 28 7) 28 7 (St.mk (Am.look [(175, T.lp 175 0)]) (Am.look [(175, Loc.iter (strOf [34, 92, 110, 116]) pos)]) H) Kr Ke =
      Am.Rec.loop (Am.Run env) (loopAt env 28 7) 28 7 (St.mk (Am.look [(175, T.lp 175 0)]) (Am.look [(175, Loc.iter (strOf [34, 92, 110, 116]) (pos + 1))]) H) Kr Ke := by
  rw [lp28_7]
  have hb : Nat.ble (Nat.succ pos) (strOf [34, 92, 110, 116]).size = true := Nat.ble_eq_true_of_le (show pos + 1 ≤ 4 by omega)
  have hc' : ¬ ((c : Int) = 65533) := by omega
  rw [hb, hd]
  simp only [br_true, hc', decide_false, br_false]

theorem idx_end {Kr : St → Prop} {Ke : Nat → St → Prop} :
    Am.Rec.loop (Am.Run env) (loopAt env 28 7) 28 7 (St.mk (Am.look [(175, T.lp 175 0)]) (Am.look [(175, Loc.iter (strOf [34, 92, 110, 116]) 4)]) H) Kr Ke = Ke 9 (St.mk (Am.look []) (Am.look []) H) := by
  rw [lp28_7]
  rfl

theorem sp_IndexRune {r : Nat} (h1 : r ≤ 1114111) (h2 : ¬ (55296 ≤ r ∧ r < 57344)) :
    Am.Rec.call (Am.Run env) 28 [.str (strOf [34, 92, 110, 116]), .int .i32 (r : Int)] H K = K (.int .i64 (idxE r)) H := by
  rw [eq28]
  have z0 : (0 : Int) ≤ (r : Int) := by omega
  by_cases c1 : r < 128
  · have d1 : (r : Int) < 128 := by omega
    have e8 : IntKind.u8.wrap (r : Int) = (r : Int) := by rw [wrap8, Nat.mod_eq_of_lt (by omega)]
    simp only [z0, d1, e8, joinP_eq, br_true, br_false, req_true, look_cons, look_nil, reduceIte, reduceCtorEq, T_val_v, isKT_k, isKT_agg, isKT_lp, isLK_c, locCells_c, nthV_zero, nthV_one, nthV_two, vals_tuple, aggCells_agg, isAgg_agg, getInt_int, getBool_bool, getStr_str, getPtr_ptr, slPtr_slice, slLen_slice, slCap_slice, isK_int, isK_bool, isK_str, isK_ptr, isK_slice, isTuple_tuple, List.length_cons, List.length_nil, Bool.and_true, Bool.true_and, Bool.or_false, Bool.false_or, Bool.and_self, decide_true, decide_false, Bool.not_true, Bool.not_false, beq_dec, ble_dec, Nat.reduceAdd, Nat.reduceEqDiff, Nat.reduceEqDiff]
    rw [sp_IndexByte _ _ (by omega)]
    simp only [joinP_eq, br_true, br_false, req_true, look_cons, look_nil, reduceIte, reduceCtorEq, T_val_v, isKT_k, isKT_agg, isKT_lp, isLK_c, locCells_c, nthV_zero, nthV_one, nthV_two, vals_tuple, aggCells_agg, isAgg_agg, getInt_int, getBool_bool, getStr_str, getPtr_ptr, slPtr_slice, slLen_slice, slCap_slice, isK_int, isK_bool, isK_str, isK_ptr, isK_slice, isTuple_tuple, List.length_cons, List.length_nil, Bool.and_true, Bool.true_and, Bool.or_false, Bool.false_or, Bool.and_self, decide_true, decide_false, Bool.not_true, Bool.not_false, beq_dec, ble_dec, Nat.reduceAdd, Nat.reduceEqDiff, Nat.reduceEqDiff]
    rw [idx_low ⟨r, c1⟩]
  · have d1 : ¬ (r : Int) < 128 := by omega
    by_cases c2 : r = 65533
    · subst c2
      have d2 : ((65533 : Nat) : Int) = 65533 := rfl
      have es : (strOf [34, 92, 110, 116]).size = 4 := rfl
      have d3 : ¬ ((65533 : Int) < 128) := by omega
      simp only [d2, d3, decide_true, decide_false, Bool.and_false, br_true, br_false]
      exact (idx_it dec_lit0 (by omega) (by omega)).trans ((idx_it dec_lit1 (by omega) (by omega)).trans ((idx_it dec_lit2 (by omega) (by omega)).trans ((idx_it dec_lit3 (by omega) (by omega)).trans (idx_end.trans rfl))))
    · have d2 : ¬ (r : Int) = 65533 := by omega
      simp only [d1, d2, decide_false, Bool.and_false, br_false]
      have hv : ∀ K' : V → Am.Heap → Prop, Am.Rec.call (Am.Run env) 47 [.int .i32 (r : Int)] H K' = K' (.bool true) H := by
        intro K'
        rw [eq47]
        by_cases c3 : r < 55296
        · have d3 : (r : Int) < 55296 := by omega
          simp only [z0, d3, joinP_eq, br_true, br_false, req_true, look_cons, look_nil, reduceIte, reduceCtorEq, T_val_v, isKT_k, isKT_agg, isKT_lp, isLK_c, locCells_c, nthV_zero, nthV_one, nthV_two, vals_tuple, aggCells_agg, isAgg_agg, getInt_int, getBool_bool, getStr_str, getPtr_ptr, slPtr_slice, slLen_slice, slCap_slice, isK_int, isK_bool, isK_str, isK_ptr, isK_slice, isTuple_tuple, List.length_cons, List.length_nil, Bool.and_true, Bool.true_and, Bool.or_false, Bool.false_or, Bool.and_self, decide_true, decide_false, Bool.not_true, Bool.not_false, beq_dec, ble_dec, Nat.reduceAdd, Nat.reduceEqDiff, Nat.reduceEqDiff]
        · have d3 : ¬ (r : Int) < 55296 := by omega
          have d4 : (57343 : Int) < (r : Int) := by omega
          have d5 : (r : Int) ≤ 1114111 := by omega
          simp only [d3, d4, d5, joinP_eq, br_true, br_false, req_true, look_cons, look_nil, reduceIte, reduceCtorEq, T_val_v, isKT_k, isKT_agg, isKT_lp, isLK_c, locCells_c, nthV_zero, nthV_one, nthV_two, vals_tuple, aggCells_agg, isAgg_agg, getInt_int, getBool_bool, getStr_str, getPtr_ptr, slPtr_slice, slLen_slice, slCap_slice, isK_int, isK_bool, isK_str, isK_ptr, isK_slice, isTuple_tuple, List.length_cons, List.length_nil, Bool.and_true, Bool.true_and, Bool.or_false, Bool.false_or, Bool.and_self, decide_true, decide_false, Bool.not_true, Bool.not_false, beq_dec, ble_dec, Nat.reduceAdd, Nat.reduceEqDiff, Nat.reduceEqDiff, Bool.and_false]
      rw [hv]
      simp only [joinP_eq, br_true, br_false, req_true, look_cons, look_nil, reduceIte, reduceCtorEq, T_val_v, isKT_k, isKT_agg, isKT_lp, isLK_c, locCells_c, nthV_zero, nthV_one, nthV_two, vals_tuple, aggCells_agg, isAgg_agg, getInt_int, getBool_bool, getStr_str, getPtr_ptr, slPtr_slice, slLen_slice, slCap_slice, isK_int, isK_bool, isK_str, isK_ptr, isK_slice, isTuple_tuple, List.length_cons, List.length_nil, Bool.and_true, Bool.true_and, Bool.or_false, Bool.false_or, Bool.and_self, decide_true, decide_false, Bool.not_true, Bool.not_false, beq_dec, ble_dec, Nat.reduceAdd, Nat.reduceEqDiff, Nat.reduceEqDiff]
      obtain ⟨l1, l2, l3⟩ := enc_last (by omega) h1 h2
      rw [utf8_enc h1 h2, strOf_size]
      generalize hE : encodeRune (r : Int) = E at l1 l2 l3 ⊢
      have ew : IntKind.i64.wrap ((E.length : Int) - 1) = ((E.length - 1 : Nat) : Int) := by rw [wrap_in (by omega) (by omega)]; omega
      rw [ew, lp28_22]
      have es : (strOf [34, 92, 110, 116]).size = 4 := rfl
      have m1 : ((E.length - 1 : Nat) : Int) < ((4 : Nat) : Int) := by omega
      have m2 : (0 : Int) ≤ ((E.length - 1 : Nat) : Int) := by omega
      have m3 : ((E.length - 1 : Nat) : Int) < (E.length : Int) := by omega
      have m4 : IntKind.i64.wrap (((E.length - 1 : Nat) : Int) + 1) = ((E.length : Nat) : Int) := by rw [wrap_in (by omega) (by omega)]; omega
      have m5 : (0 : Int) ≤ ((E.length : Nat) : Int) := by omega
      have m6 : ((E.length : Nat) : Int) ≤ ((4 : Nat) : Int) := by omega
      have hlow : bAt [34, 92, 110, 116] (E.length - 1) < 128 := by
        have : E.length = 2 ∨ E.length = 3 ∨ E.length = 4 := by omega
        rcases this with e | e | e <;> rw [e] <;> decide
      have m7 : ¬ ((bAt [34, 92, 110, 116] (E.length - 1) : Int) = (bAt E (E.length - 1) : Int)) := by omega
      simp only [es, m1, m2, m3, m4, m5, m6, byteAt_of, Int.toNat_natCast, strOf_size, decide_true, Bool.and_self, br_true, req_true, joinP_eq, m7, decide_false, Bool.not_false]
      rw [sp_IndexByte _ _ (bAt_lt _ _)]
      have hidx : idxB (ByteArray.extract (strOf [34, 92, 110, 116]) E.length 4) (UInt8.ofNat (bAt E (E.length - 1))) = -1 := by
        have hlt := bAt_lt E (E.length - 1)
        have : E.length = 2 ∨ E.length = 3 ∨ E.length = 4 := by omega
        rw [ext_of]
        rcases this with e | e | e
        · rw [e] at l3 hlt ⊢; exact idx_hi1 ⟨bAt E (2 - 1), hlt⟩ (by show 128 ≤ bAt E (2 - 1); omega)
        · rw [e] at l3 hlt ⊢; exact idx_hi2 ⟨bAt E (3 - 1), hlt⟩ (by show 128 ≤ bAt E (3 - 1); omega)
        · rw [e] at l3 hlt ⊢; exact idx_hi3 ⟨bAt E (4 - 1), hlt⟩ (by show 128 ≤ bAt E (4 - 1); omega)
      have he : idxE r = -1 := by unfold idxE; rw [if_neg (by omega), if_neg (by omega), if_neg (by omega), if_neg (by omega)]
      rw [hidx, he]
      simp only [joinP_eq, br_true, br_false, req_true, look_cons, look_nil, reduceIte, reduceCtorEq, T_val_v, isKT_k, isKT_agg, isKT_lp, isLK_c, locCells_c, nthV_zero, nthV_one, nthV_two, vals_tuple, aggCells_agg, isAgg_agg, getInt_int, getBool_bool, getStr_str, getPtr_ptr, slPtr_slice, slLen_slice, slCap_slice, isK_int, isK_bool, isK_str, isK_ptr, isK_slice, isTuple_tuple, List.length_cons, List.length_nil, Bool.and_true, Bool.true_and, Bool.or_false, Bool.false_or, Bool.and_self, decide_true, decide_false, Bool.not_true, Bool.not_false, beq_dec, ble_dec, Nat.reduceAdd, Nat.reduceEqDiff, Nat.reduceEqDiff]
      rfl

end

end Go.Proofs.YtibkggbidojocaaDoor
