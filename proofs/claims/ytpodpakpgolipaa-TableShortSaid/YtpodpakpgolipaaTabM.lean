/- The laws of layer 13 about bytes that came in. -/
import Derived.Test.YtpodpakpgolipaaTabL
namespace Go.Proofs.Ytpodpakpgolipaa
open Go.Am
set_option maxRecDepth 100000
set_option linter.unusedSimpArgs false
set_option linter.unusedVariables false
set_option linter.unusedSectionVars false

section
variable {B : Am.Heap} {L : List Ast} {H : Am.Heap} {K : V → Am.Heap → Prop}

theorem lp_Reads (x1 : Bool) {Kr : Am.St → Prop} {Ke : Nat → Am.St → Prop} : ∀ (n : Nat) (bs : List UInt8) {q : Option (Nat × Nat)} {cap : Nat} {H : Am.Heap}, 43 - bs.length ≤ n → bs.length ≤ 1000 → Sat B H (BY q cap bs :: L) →
    (∀ bs' q' c' H', bs'.length ≤ 1000 → Sat B H' (BY q' c' bs' :: L) → Ke 0 (St.mk (Am.look [(5, T.v (V.slice q' bs'.length c'))]) (Am.look []) H')) →
    Am.Rec.loop (Am.Run env) (Am.loopAt env 8 6) 8 6
      (St.mk (Am.look [(1, T.v (V.bool x1)), (5, T.v (V.slice q bs.length cap))]) (Am.look []) H) Kr Ke
  | 0, bs, q, cap, H, hn, hl, h, k => by
    rw [lp8_6]
    have e : (x1 && decide ((bs.length : Int) < 43)) = false := by
      have : ¬ (bs.length : Int) < 43 := by omega
      simp [this]
    rw [e, br_false]
    exact k bs _ _ _ hl h
  | n + 1, bs, q, cap, H, hn, hl, h, k => by
    rw [lp8_6]
    by_cases hx : x1 = true ∧ (bs.length : Int) < 43
    · have e : (x1 && decide ((bs.length : Int) < 43)) = true := by simpa using hx
      rw [e, br_true]
      refine app_byte' h (UInt8.ofNat 0) rfl (by omega) (fun q' c' H' h' => ?_)
      exact lp_Reads x1 n (bs ++ [UInt8.ofNat 0]) (by simp; omega) (by simp; omega) h' k
    · have e : (x1 && decide ((bs.length : Int) < 43)) = false := by
        cases he : (x1 && decide ((bs.length : Int) < 43))
        · rfl
        · exact absurd (by simpa using he) hx
      rw [e, br_false]
      exact k bs _ _ _ hl h

theorem law_TableReads (h0 : Sat H H []) (q : Option (Nat × Nat)) (len cap : Nat) (x1 : Bool) (hs : SlTy env.P H 5 q len cap) :
    Am.Rec.call (Am.Run env) 8 [.slice q len cap, .bool x1] H fun v _ => v = .bool true := by
  obtain ⟨bs, rfl, hr, hc, _⟩ := bytes_in el_u8 cells_u8 hs
  rw [show [V.slice q bs.length cap, V.bool x1] = c91 q bs.length cap x1 from rfl, eq8]
  refine sp_awake h0 (fun H1 h1 => ?_)
  simp only [joinP_eq, br_true, br_false, req_true, look_cons, look_nil, reduceIte, reduceCtorEq, T_val_v, isKT_k, isKT_agg, isKT_lp, isLK_c, locCells_c, nthV_zero, nthV_one, nthV_two, vals_tuple, aggCells_agg, isAgg_agg, getInt_int, getBool_bool, getStr_str, getPtr_ptr, slPtr_slice, slLen_slice, slCap_slice, isK_int, isK_bool, isK_str, isK_ptr, isK_slice, isTuple_tuple, List.length_cons, List.length_nil, Bool.and_true, Bool.true_and, Bool.or_false, Bool.false_or, Bool.and_self, decide_true, decide_false, Bool.not_true, Bool.not_false, beq_dec, ble_dec, Nat.reduceAdd, Nat.reduceEqDiff, Nat.reduceEqDiff]
  by_cases hl : (bs.length : Int) > 300
  · simp only [hl, decide_true, cond_true, br_true]
    refine sp_awake h1 (fun H2 h2 => ?_)
    simp only [joinP_eq, br_true, br_false, req_true, look_cons, look_nil, reduceIte, reduceCtorEq, T_val_v, isKT_k, isKT_agg, isKT_lp, isLK_c, locCells_c, nthV_zero, nthV_one, nthV_two, vals_tuple, aggCells_agg, isAgg_agg, getInt_int, getBool_bool, getStr_str, getPtr_ptr, slPtr_slice, slLen_slice, slCap_slice, isK_int, isK_bool, isK_str, isK_ptr, isK_slice, isTuple_tuple, List.length_cons, List.length_nil, Bool.and_true, Bool.true_and, Bool.or_false, Bool.false_or, Bool.and_self, decide_true, decide_false, Bool.not_true, Bool.not_false, beq_dec, ble_dec, Nat.reduceAdd, Nat.reduceEqDiff, Nat.reduceEqDiff]
  · simp only [hl, decide_false, cond_true, br_false]
    refine app_bytes (bs := []) (bytNil h1) ((h1.rdB hr).src cap) (by simp; omega) (fun q2 c2 H2 h2 => ?_)
    rw [List.nil_append] at h2 ⊢
    refine lp_Reads x1 43 bs (by omega) (by omega) h2 (fun bs' q3 c3 H3 hl3 h3 => ?_)
    simp only [joinP_eq, br_true, br_false, req_true, look_cons, look_nil, reduceIte, reduceCtorEq, T_val_v, isKT_k, isKT_agg, isKT_lp, isLK_c, locCells_c, nthV_zero, nthV_one, nthV_two, vals_tuple, aggCells_agg, isAgg_agg, getInt_int, getBool_bool, getStr_str, getPtr_ptr, slPtr_slice, slLen_slice, slCap_slice, isK_int, isK_bool, isK_str, isK_ptr, isK_slice, isTuple_tuple, List.length_cons, List.length_nil, Bool.and_true, Bool.true_and, Bool.or_false, Bool.false_or, Bool.and_self, decide_true, decide_false, Bool.not_true, Bool.not_false, beq_dec, ble_dec, Nat.reduceAdd, Nat.reduceEqDiff, Nat.reduceEqDiff]
    refine sp_Decode h3 Rds.byt h3.buf.2.2.1 (fun H4 h4 => ?_)
    have hd : decD bs' = none ∨ ∃ r n, decD bs' = some (r, n) := by
      cases h : decD bs' with
      | none => exact .inl rfl
      | some x => exact .inr ⟨x.1, x.2, rfl⟩
    rcases hd with hd | ⟨r, n, hd⟩
    · rw [hd]
      simp only [decV, joinP_eq, br_true, br_false, req_true, look_cons, look_nil, reduceIte, reduceCtorEq, T_val_v, isKT_k, isKT_agg, isKT_lp, isLK_c, locCells_c, nthV_zero, nthV_one, nthV_two, vals_tuple, aggCells_agg, isAgg_agg, getInt_int, getBool_bool, getStr_str, getPtr_ptr, slPtr_slice, slLen_slice, slCap_slice, isK_int, isK_bool, isK_str, isK_ptr, isK_slice, isTuple_tuple, List.length_cons, List.length_nil, Bool.and_true, Bool.true_and, Bool.or_false, Bool.false_or, Bool.and_self, decide_true, decide_false, Bool.not_true, Bool.not_false, beq_dec, ble_dec, Nat.reduceAdd, Nat.reduceEqDiff, Nat.reduceEqDiff, zero_cs, R.fits_cs, R.open_cs]
      rw [sp_rDecode h4.bytRd h4.buf.2.2.1, hd]
      simp only [decVD, joinP_eq, br_true, br_false, req_true, look_cons, look_nil, reduceIte, reduceCtorEq, T_val_v, isKT_k, isKT_agg, isKT_lp, isLK_c, locCells_c, nthV_zero, nthV_one, nthV_two, vals_tuple, aggCells_agg, isAgg_agg, getInt_int, getBool_bool, getStr_str, getPtr_ptr, slPtr_slice, slLen_slice, slCap_slice, isK_int, isK_bool, isK_str, isK_ptr, isK_slice, isTuple_tuple, List.length_cons, List.length_nil, Bool.and_true, Bool.true_and, Bool.or_false, Bool.false_or, Bool.and_self, decide_true, decide_false, Bool.not_true, Bool.not_false, beq_dec, ble_dec, Nat.reduceAdd, Nat.reduceEqDiff, Nat.reduceEqDiff, zero_cs, R.fits_cs, R.open_cs, R.eq_self]
      simp
    · rw [hd]
      simp only [decV, joinP_eq, br_true, br_false, req_true, look_cons, look_nil, reduceIte, reduceCtorEq, T_val_v, isKT_k, isKT_agg, isKT_lp, isLK_c, locCells_c, nthV_zero, nthV_one, nthV_two, vals_tuple, aggCells_agg, isAgg_agg, getInt_int, getBool_bool, getStr_str, getPtr_ptr, slPtr_slice, slLen_slice, slCap_slice, isK_int, isK_bool, isK_str, isK_ptr, isK_slice, isTuple_tuple, List.length_cons, List.length_nil, Bool.and_true, Bool.true_and, Bool.or_false, Bool.false_or, Bool.and_self, decide_true, decide_false, Bool.not_true, Bool.not_false, beq_dec, ble_dec, Nat.reduceAdd, Nat.reduceEqDiff, Nat.reduceEqDiff, R.fits_cs, R.open_cs]
      rw [sp_rDecode h4.bytRd h4.buf.2.2.1, hd]
      simp only [decVD, joinP_eq, br_true, br_false, req_true, look_cons, look_nil, reduceIte, reduceCtorEq, T_val_v, isKT_k, isKT_agg, isKT_lp, isLK_c, locCells_c, nthV_zero, nthV_one, nthV_two, vals_tuple, aggCells_agg, isAgg_agg, getInt_int, getBool_bool, getStr_str, getPtr_ptr, slPtr_slice, slLen_slice, slCap_slice, isK_int, isK_bool, isK_str, isK_ptr, isK_slice, isTuple_tuple, List.length_cons, List.length_nil, Bool.and_true, Bool.true_and, Bool.or_false, Bool.false_or, Bool.and_self, decide_true, decide_false, Bool.not_true, Bool.not_false, beq_dec, ble_dec, Nat.reduceAdd, Nat.reduceEqDiff, Nat.reduceEqDiff, R.fits_cs, R.open_cs, R.eq_self]
      simp

theorem law_TableShort (h0 : Sat H H []) (x : R) (x1 x2 : Int) (q : Option (Nat × Nat)) (len cap : Nat) (o : x.inp) (l1 : 0 ≤ x1) (g1 : x1 ≤ 65535) (l2 : 0 ≤ x2) (g2 : x2 ≤ 255) (hs : SlTy env.P H 5 q len cap) :
    Am.Rec.call (Am.Run env) 9 [.agg x.cs, .int .u16 x1, .int .u8 x2, .slice q len cap] H fun v _ => v = .bool true := by
  obtain ⟨bs, rfl, hr, hc, _⟩ := bytes_in el_u8 cells_u8 hs
  conv in x.cs => unfold R.cs
  rw [eq9]
  refine sp_awake h0 (fun H1 h1 => ?_)
  simp only [R.fold, joinP_eq, br_true, br_false, req_true, look_cons, look_nil, reduceIte, reduceCtorEq, T_val_v, isKT_k, isKT_agg, isKT_lp, isLK_c, locCells_c, nthV_zero, nthV_one, nthV_two, vals_tuple, aggCells_agg, isAgg_agg, getInt_int, getBool_bool, getStr_str, getPtr_ptr, slPtr_slice, slLen_slice, slCap_slice, isK_int, isK_bool, isK_str, isK_ptr, isK_slice, isTuple_tuple, List.length_cons, List.length_nil, Bool.and_true, Bool.true_and, Bool.or_false, Bool.false_or, Bool.and_self, decide_true, decide_false, Bool.not_true, Bool.not_false, beq_dec, ble_dec, Nat.reduceAdd, Nat.reduceEqDiff, Nat.reduceEqDiff]
  by_cases hl : (bs.length : Int) > 100
  · simp only [hl, decide_true, cond_true, br_true]
    refine sp_awake h1 (fun H2 h2 => ?_)
    simp only [joinP_eq, br_true, br_false, req_true, look_cons, look_nil, reduceIte, reduceCtorEq, T_val_v, isKT_k, isKT_agg, isKT_lp, isLK_c, locCells_c, nthV_zero, nthV_one, nthV_two, vals_tuple, aggCells_agg, isAgg_agg, getInt_int, getBool_bool, getStr_str, getPtr_ptr, slPtr_slice, slLen_slice, slCap_slice, isK_int, isK_bool, isK_str, isK_ptr, isK_slice, isTuple_tuple, List.length_cons, List.length_nil, Bool.and_true, Bool.true_and, Bool.or_false, Bool.false_or, Bool.and_self, decide_true, decide_false, Bool.not_true, Bool.not_false, beq_dec, ble_dec, Nat.reduceAdd, Nat.reduceEqDiff, Nat.reduceEqDiff]
  · simp only [hl, decide_false, cond_true, br_false]
    refine sp_near x o.ty o.ge h1 (fun H2 h2 => ?_)
    obtain ⟨hf, hok⟩ := near_form x o.k o.ty o.ge
    have hn : IntKind.i64.wrap x1 = (x1.toNat : Int) := by rw [wrap_in (by omega) (by omega)]; omega
    have hn2 : x1.toNat < 65536 := by omega
    have hm : Int.tmod (IntKind.i64.wrap x2) 43 = ((x2 % 43).toNat : Int) := by
      rw [wrap_in (by omega) (by omega), Int.tmod_eq_emod_of_nonneg l2]; omega
    have hm2 : (x2 % 43).toNat < 43 := by omega
    simp only [joinP_eq, br_true, br_false, req_true, look_cons, look_nil, reduceIte, reduceCtorEq, T_val_v, isKT_k, isKT_agg, isKT_lp, isLK_c, locCells_c, nthV_zero, nthV_one, nthV_two, vals_tuple, aggCells_agg, isAgg_agg, getInt_int, getBool_bool, getStr_str, getPtr_ptr, slPtr_slice, slLen_slice, slCap_slice, isK_int, isK_bool, isK_str, isK_ptr, isK_slice, isTuple_tuple, List.length_cons, List.length_nil, Bool.and_true, Bool.true_and, Bool.or_false, Bool.false_or, Bool.and_self, decide_true, decide_false, Bool.not_true, Bool.not_false, beq_dec, ble_dec, Nat.reduceAdd, Nat.reduceEqDiff, Nat.reduceEqDiff, R.fits_cs, R.open_cs, hn, hm]
    generalize x1.toNat = n at hn2 ⊢
    generalize (x2 % 43).toNat = m at hm2 ⊢
    generalize nearR x = r at hf hok ⊢
    refine sp_Encode r hok n (by omega) (by omega) h2 (fun q3 c3 H3 h3 => ?_)
    have hlen := encR_len r n
    have hc3 := h3.buf.2.2.1
    obtain ⟨s, hd, hs⟩ := dec_enc hok hf (n := n) (by omega)
    generalize encR r n = es at h3 hlen hc3 hd ⊢
    have e1 : 0 ≤ (m : Int) := by omega
    have e2 : (m : Int) ≤ (c3 : Int) := by omega
    have e3 : m ≤ c3 := by omega
    simp only [joinP_eq, br_true, br_false, req_true, look_cons, look_nil, reduceIte, reduceCtorEq, T_val_v, isKT_k, isKT_agg, isKT_lp, isLK_c, locCells_c, nthV_zero, nthV_one, nthV_two, vals_tuple, aggCells_agg, isAgg_agg, getInt_int, getBool_bool, getStr_str, getPtr_ptr, slPtr_slice, slLen_slice, slCap_slice, isK_int, isK_bool, isK_str, isK_ptr, isK_slice, isTuple_tuple, List.length_cons, List.length_nil, Bool.and_true, Bool.true_and, Bool.or_false, Bool.false_or, Bool.and_self, decide_true, decide_false, Bool.not_true, Bool.not_false, beq_dec, ble_dec, Nat.reduceAdd, Nat.reduceEqDiff, Nat.reduceEqDiff, e1, e2, e3, Int.toNat_natCast, ptrAdd_zero, Nat.sub_zero]
    have hp := (Rds.byt (B := H) (L := []) (el := 5) (q := q3) (cap := c3) (bs := es)).part 0 m (by omega)
    rw [List.drop_zero, ptrAdd_zero] at hp
    have hlm : (es.take m).length = m := by rw [List.length_take]; omega
    have hd0 : decD (es.take m) = none := dec_len (by omega)
    rw [show (V.slice q3 m c3) = V.slice q3 (es.take m).length c3 by rw [hlm]]
    refine sp_Decode (cap := c3) h3 hp (by omega) (fun H4 h4 => ?_)
    rw [hd0]
    simp only [decV, joinP_eq, br_true, br_false, req_true, look_cons, look_nil, reduceIte, reduceCtorEq, T_val_v, isKT_k, isKT_agg, isKT_lp, isLK_c, locCells_c, nthV_zero, nthV_one, nthV_two, vals_tuple, aggCells_agg, isAgg_agg, getInt_int, getBool_bool, getStr_str, getPtr_ptr, slPtr_slice, slLen_slice, slCap_slice, isK_int, isK_bool, isK_str, isK_ptr, isK_slice, isTuple_tuple, List.length_cons, List.length_nil, Bool.and_true, Bool.true_and, Bool.or_false, Bool.false_or, Bool.and_self, decide_true, decide_false, Bool.not_true, Bool.not_false, beq_dec, ble_dec, Nat.reduceAdd, Nat.reduceEqDiff, Nat.reduceEqDiff, zero_cs, R.fits_cs, R.open_cs]
    refine app_bytes (bs := []) (bytNil h4) (h4.bytRd.src c3) (by simp; omega) (fun q5 c5 H5 h5 => ?_)
    rw [List.nil_append] at h5 ⊢
    refine app_bytes h5 ((h5.rdB hr).src cap) (by omega) (fun q6 c6 H6 h6 => ?_)
    refine sp_Decode h6 Rds.byt h6.buf.2.2.1 (fun H7 h7 => ?_)
    by_cases hb : bs = []
    · subst hb
      rw [List.append_nil, hd]
      simp only [decV, joinP_eq, br_true, br_false, req_true, look_cons, look_nil, reduceIte, reduceCtorEq, T_val_v, isKT_k, isKT_agg, isKT_lp, isLK_c, locCells_c, nthV_zero, nthV_one, nthV_two, vals_tuple, aggCells_agg, isAgg_agg, getInt_int, getBool_bool, getStr_str, getPtr_ptr, slPtr_slice, slLen_slice, slCap_slice, isK_int, isK_bool, isK_str, isK_ptr, isK_slice, isTuple_tuple, List.length_cons, List.length_nil, Bool.and_true, Bool.true_and, Bool.or_false, Bool.false_or, Bool.and_self, decide_true, decide_false, Bool.not_true, Bool.not_false, beq_dec, ble_dec, Nat.reduceAdd, Nat.reduceEqDiff, Nat.reduceEqDiff, R.fits_cs, R.open_cs]
      simp
    · have hb2 : 0 < bs.length := List.length_pos_iff.2 hb
      rw [dec_len (bs := es ++ bs) (by rw [List.length_append]; omega)]
      simp only [decV, joinP_eq, br_true, br_false, req_true, look_cons, look_nil, reduceIte, reduceCtorEq, T_val_v, isKT_k, isKT_agg, isKT_lp, isLK_c, locCells_c, nthV_zero, nthV_one, nthV_two, vals_tuple, aggCells_agg, isAgg_agg, getInt_int, getBool_bool, getStr_str, getPtr_ptr, slPtr_slice, slLen_slice, slCap_slice, isK_int, isK_bool, isK_str, isK_ptr, isK_slice, isTuple_tuple, List.length_cons, List.length_nil, Bool.and_true, Bool.true_and, Bool.or_false, Bool.false_or, Bool.and_self, decide_true, decide_false, Bool.not_true, Bool.not_false, beq_dec, ble_dec, Nat.reduceAdd, Nat.reduceEqDiff, Nat.reduceEqDiff, zero_cs, R.fits_cs, R.open_cs]
      have : ¬ (bs.length : Int) = 0 := by omega
      simp [this, hb]

end
end Go.Proofs.Ytpodpakpgolipaa
