/- The laws of layer 13. -/
import Derived.Test.YtpodpakpgolipaaTabD
import Derived.Test.YtpodpakpgolipaaAmIn
namespace Go.Proofs.Ytpodpakpgolipaa
open Go.Am
set_option maxRecDepth 100000
set_option linter.unusedSimpArgs false
set_option linter.unusedVariables false
set_option linter.unusedSectionVars false

theorem encK_part (k : Nat → Int) : ∀ (n : Nat) (t : List UInt8) (i : Nat), i < n → ((encK k n ++ t).drop (4 * i)).take 4 = le (k i).toNat 4
  | n + 1, t, i, h => by
    rw [encK, List.append_assoc]
    by_cases hi : i = n
    · subst hi
      rw [List.drop_left' (by rw [encK_len]), List.take_left' (by simp)]
    · exact encK_part k n _ i (by omega)

theorem encR_tail (r : R) (n : Nat) : encR r n = encK r.k 8 ++ (UInt8.ofNat r.ty.toNat :: UInt8.ofNat (r.ho + 1).toNat :: (le r.ge.toNat 4 ++ (UInt8.ofNat (if r.la = true then 1 else 0) :: le n 4))) := by
  simp [encR, le]

theorem encR_getD (r : R) (n j : Nat) : (encR r n).getD (32 + j) 0 = (UInt8.ofNat r.ty.toNat :: UInt8.ofNat (r.ho + 1).toNat :: (le r.ge.toNat 4 ++ (UInt8.ofNat (if r.la = true then 1 else 0) :: le n 4))).getD j 0 := by
  rw [encR_tail, List.getD_eq_getElem?_getD, List.getD_eq_getElem?_getD, List.getElem?_append_right (by rw [encK_len]; omega), encK_len]
  congr 2
  omega

theorem encR_drop (r : R) (n j : Nat) : (encR r n).drop (32 + j) = (UInt8.ofNat r.ty.toNat :: UInt8.ofNat (r.ho + 1).toNat :: (le r.ge.toNat 4 ++ (UInt8.ofNat (if r.la = true then 1 else 0) :: le n 4))).drop j := by
  rw [encR_tail, ← List.drop_drop, List.drop_left' (by rw [encK_len])]

theorem unle_le4 {n : Nat} (h : n < 4294967296) : unle (le n 4) = n := by
  rw [unle_le]
  exact Nat.mod_eq_of_lt (by simpa using h)

theorem parseR_k (bs : List UInt8) (i : Nat) : (parseR bs).k i = if i < 8 then ((unle ((bs.drop (4 * i)).take 4) : Nat) : Int) else 0 := rfl
theorem parseR_ty (bs : List UInt8) : (parseR bs).ty = ((bs.getD 32 0).toNat : Int) := rfl
theorem parseR_ho (bs : List UInt8) : (parseR bs).ho = ((bs.getD 33 0).toNat : Int) - 1 := rfl
theorem parseR_ge (bs : List UInt8) : (parseR bs).ge = ((unle ((bs.drop 34).take 4) : Nat) : Int) := rfl
theorem parseR_la (bs : List UInt8) : (parseR bs).la = decide (((bs.getD 38 0).toNat : Int) = 1) := rfl

theorem parse_enc {r : R} (hr : r.ok) (h7 : r.ho ≤ 7) {n : Nat} (hn : n < 2147483648) :
    (parseR (encR r n)).cs = r.cs ∧ goodL (encR r n) = true ∧ unle (((encR r n).drop 39).take 4) = n := by
  have k1 := hr.ty
  have k2 := hr.ho
  have k3 := hr.ge
  have g32 : (encR r n).getD 32 0 = UInt8.ofNat r.ty.toNat := encR_getD r n 0
  have g33 : (encR r n).getD 33 0 = UInt8.ofNat (r.ho + 1).toNat := encR_getD r n 1
  have g38 : (encR r n).getD 38 0 = UInt8.ofNat (if r.la = true then 1 else 0) := by
    have := encR_getD r n 6
    rw [this]; simp [le]
  have g42 : (encR r n).getD 42 0 = UInt8.ofNat (n / 256 / 256 / 256) := by
    have := encR_getD r n 10
    rw [this]; simp [le]
  have d34 : ((encR r n).drop 34).take 4 = le r.ge.toNat 4 := by
    have := encR_drop r n 2
    rw [this]
    simp [le]
  have d39 : ((encR r n).drop 39).take 4 = le n 4 := by
    have := encR_drop r n 7
    rw [this]
    simp [le]
  refine ⟨?_, ?_, ?_⟩
  · apply R.cs_ext
    · intro i hi
      have hk := hr.k i
      rw [parseR_k, if_pos hi, encR_tail, encK_part _ _ _ _ hi, unle_le4 (by omega)]
      omega
    · rw [parseR_ty, g32]; simp; omega
    · rw [parseR_ho, g33]; simp; omega
    · rw [parseR_ge, d34, unle_le4 (by omega)]; omega
    · rw [parseR_la, g38]
      cases r.la <;> simp
  · unfold goodL
    rw [g33, g38, g42, encR_len]
    have e1 : (UInt8.ofNat (r.ho + 1).toNat).toNat ≤ 8 := by simp; omega
    have e2 : (UInt8.ofNat (if r.la = true then 1 else 0)).toNat ≤ 1 := by cases r.la <;> simp
    have e3 : (UInt8.ofNat (n / 256 / 256 / 256)).toNat ≤ 127 := by simp; omega
    rw [decide_eq_true e1, decide_eq_true e2, decide_eq_true e3]
    simp
  · rw [d39, unle_le4 (by omega)]

theorem form_cs {r s : R} (h : r.cs = s.cs) : formR r = formR s := by
  obtain ⟨hk, h1, h2, h3, h4⟩ := (R.eq_iff r s).1 ((R.cs_eq_iff r s).2 h)
  have hs : someB r.k 8 = someB s.k 8 := by
    simp only [someB]
    rw [hk 0 (by omega), hk 1 (by omega), hk 2 (by omega), hk 3 (by omega), hk 4 (by omega), hk 5 (by omega), hk 6 (by omega), hk 7 (by omega)]
  unfold formR oneR
  rw [h1, h2, hs]
  by_cases h8 : s.ho ≥ 8
  · simp [h8]
  · by_cases h0 : s.ho ≥ 0
    · rw [hk s.ho.toNat (by omega)]
    · by_cases h9 : s.ho < -1
      · simp [h9]
      · have : s.ho = -1 := by omega
        rw [this]
        have : Int.toNat (-1) = 0 := rfl
        rw [this, hk 0 (by omega)]

theorem dec_enc {r : R} (hr : r.ok) (hf : formR r = true) {n : Nat} (hn : n < 2147483648) : ∃ s, decD (encR r n) = some (s, n) ∧ s.cs = r.cs := by
  have h7 : r.ho ≤ 7 := by
    unfold formR at hf
    simp at hf
    omega
  obtain ⟨h1, h2, h3⟩ := parse_enc hr h7 hn
  refine ⟨parseR (encR r n), ?_, h1⟩
  unfold decD
  rw [if_pos ⟨h2, by rw [form_cs h1]; exact hf⟩, h3]

theorem encR_ext {r s : R} (h : r.cs = s.cs) (n : Nat) : encR r n = encR s n := by
  obtain ⟨hk, h1, h2, h3, h4⟩ := (R.eq_iff r s).1 ((R.cs_eq_iff r s).2 h)
  unfold encR
  simp only [encK]
  rw [hk 0 (by omega), hk 1 (by omega), hk 2 (by omega), hk 3 (by omega), hk 4 (by omega), hk 5 (by omega), hk 6 (by omega), hk 7 (by omega), h1, h2, h3, h4]

theorem dec_len {bs : List UInt8} (h : bs.length ≠ 43) : decD bs = none := by
  unfold decD goodL
  rw [decide_eq_false h]
  simp

def R.zero : R := ⟨fun _ => 0, 0, 0, 0, false⟩
def R.none0 : R := ⟨fun _ => 0, 0, -1, 0, false⟩

theorem zero_cs : c24 0 0 0 0 0 0 0 0 0 0 0 false = R.zero.cs := rfl
theorem none_cs : c24 0 0 0 0 0 0 0 0 0 (-1) 0 false = R.none0.cs := rfl

theorem el_u8 : env.P.underlying 5 = some (.int .u8) := Try.underlying5
theorem cells_u8 : env.P.cellsOf 5 = 1 := by kernel_rfl
theorem cells_int : env.P.cellsOf 3 = 1 := by kernel_rfl
theorem cells_bool : env.P.cellsOf 4 = 1 := by kernel_rfl
theorem cells_u32 : env.P.cellsOf 22 = 1 := by kernel_rfl
theorem cells_keys : env.P.cellsOf 23 = 8 := by kernel_rfl
theorem cells_Resv : env.P.cellsOf 25 = 12 := by kernel_rfl

theorem u8_range {y : Int} (h : IntKind.u8.min ≤ y ∧ y ≤ IntKind.u8.max) : 0 ≤ y ∧ y ≤ 255 := by
  simpa [IntKind.min, IntKind.max, IntKind.bits, IntKind.signed] using h
theorem i64_range {y : Int} (h : IntKind.i64.min ≤ y ∧ y ≤ IntKind.i64.max) : -9223372036854775808 ≤ y ∧ y ≤ 9223372036854775807 := by
  simpa [IntKind.min, IntKind.max, IntKind.bits, IntKind.signed] using h
theorem u32_range {y : Int} (h : IntKind.u32.min ≤ y ∧ y ≤ IntKind.u32.max) : 0 ≤ y ∧ y ≤ 4294967295 := by
  simpa [IntKind.min, IntKind.max, IntKind.bits, IntKind.signed] using h

/-- A state as it comes in. -/
structure R.inp (r : R) : Prop where
  k : ∀ i, 0 ≤ r.k i ∧ r.k i ≤ 4294967295
  ty : 0 ≤ r.ty ∧ r.ty ≤ 255
  ho : -9223372036854775808 ≤ r.ho ∧ r.ho ≤ 9223372036854775807
  ge : 0 ≤ r.ge ∧ r.ge ≤ 4294967295

theorem resv_of {H : Am.Heap} {n : Nat} {cs : List V} (h : tyC env.P H n 25 cs) : ∃ r : R, cs = r.cs ∧ r.inp := by
  obtain ⟨hl, m, hf⟩ := ty_struct (P := env.P) Try.underlying25 h
  rw [cells_Resv] at hl
  match cs, hl with
  | [a0, a1, a2, a3, a4, a5, a6, a7, a8, a9, a10, a11], _ =>
    simp only [List.forall_mem_cons, cells_u8, cells_bool, cells_int, cells_u32, cells_keys, List.drop_succ_cons, List.drop_zero, List.take_succ_cons, List.take_zero] at hf
    obtain ⟨h0, h1, h2, h3, h4, _⟩ := hf
    obtain ⟨_, k, ha⟩ := ty_array (P := env.P) Try.underlying23 h0
    rw [cells_u32] at ha
    obtain ⟨y0, rfl, r0⟩ := ty_int (P := env.P) Try.underlying22 (ha 0 (by omega))
    obtain ⟨y1, rfl, r1⟩ := ty_int (P := env.P) Try.underlying22 (ha 1 (by omega))
    obtain ⟨y2, rfl, r2⟩ := ty_int (P := env.P) Try.underlying22 (ha 2 (by omega))
    obtain ⟨y3, rfl, r3⟩ := ty_int (P := env.P) Try.underlying22 (ha 3 (by omega))
    obtain ⟨y4, rfl, r4⟩ := ty_int (P := env.P) Try.underlying22 (ha 4 (by omega))
    obtain ⟨y5, rfl, r5⟩ := ty_int (P := env.P) Try.underlying22 (ha 5 (by omega))
    obtain ⟨y6, rfl, r6⟩ := ty_int (P := env.P) Try.underlying22 (ha 6 (by omega))
    obtain ⟨y7, rfl, r7⟩ := ty_int (P := env.P) Try.underlying22 (ha 7 (by omega))
    obtain ⟨y8, rfl, r8⟩ := ty_int (P := env.P) Try.underlying5 h1
    obtain ⟨y9, rfl, r9⟩ := ty_int (P := env.P) Try.underlying3 h2
    obtain ⟨y10, rfl, r10⟩ := ty_int (P := env.P) Try.underlying22 h3
    obtain ⟨y11, rfl⟩ := ty_bool (P := env.P) Try.underlying4 h4
    refine ⟨⟨fun i => if i = 0 then y0 else if i = 1 then y1 else if i = 2 then y2 else if i = 3 then y3 else if i = 4 then y4 else if i = 5 then y5 else if i = 6 then y6 else if i = 7 then y7 else 0, y8, y9, y10, y11⟩, rfl, ?_, u8_range r8, i64_range r9, u32_range r10⟩
    intro i
    show 0 ≤ (if i = 0 then y0 else _) ∧ (if i = 0 then y0 else _) ≤ 4294967295
    have := u32_range r0; have := u32_range r1; have := u32_range r2; have := u32_range r3; have := u32_range r4; have := u32_range r5; have := u32_range r6; have := u32_range r7
    repeat' split
    all_goals omega

section
variable {B : Am.Heap} {L : List Ast} {H : Am.Heap} {K : V → Am.Heap → Prop}

def awakeR : R := ⟨upd (fun _ => 0) 3 9, 0, -1, 1, false⟩

theorem awake_do : doR R.none0 3 ⟨4, 0, none, 0, 0, false, 0, 9, 0, false⟩ = (awakeR, 0) := by kernel_rfl

theorem awake_cm : c67 4 0 none 0 0 false 0 9 0 false = Cm.cs ⟨4, 0, none, 0, 0, false, 0, 9, 0, false⟩ := rfl

theorem awakeR_ok : awakeR.ok := by
  refine ⟨fun i => ?_, by decide, by decide, by decide⟩
  show 0 ≤ upd (fun _ => 0) 3 9 i ∧ upd (fun _ => 0) 3 9 i ≤ 4294967295
  simp only [upd]
  split <;> simp

theorem sp_awake (h : Sat B H L) (k : ∀ H', Sat B H' L → K (.bool true) H') : Am.Rec.call (Am.Run env) 14 [] H K := by
  rw [eq14]
  have e1 : (⟨fun _ => 0, 0, -1, 0, false⟩ : R) = R.none0 := rfl
  have e2 : wakeR awakeR 0 1 = R.none0 := by kernel_rfl
  have e3 : wakeR awakeR 1 1 = awakeR := by kernel_rfl
  simp only [sp_None, e1, isAgg_agg, aggCells_agg, R.fits_cs, R.open_cs, Bool.and_self, req_true, awake_cm, sp_Do, awake_do, joinP_eq, br_true, br_false, req_true, look_cons, look_nil, reduceIte, reduceCtorEq, T_val_v, isKT_k, isKT_agg, isKT_lp, isLK_c, locCells_c, nthV_zero, nthV_one, nthV_two, vals_tuple, aggCells_agg, isAgg_agg, getInt_int, getBool_bool, getStr_str, getPtr_ptr, slPtr_slice, slLen_slice, slCap_slice, isK_int, isK_bool, isK_str, isK_ptr, isK_slice, isTuple_tuple, List.length_cons, List.length_nil, Bool.and_true, Bool.true_and, Bool.or_false, Bool.false_or, Bool.and_self, decide_true, decide_false, Bool.not_true, Bool.not_false, beq_dec, ble_dec, Nat.reduceAdd, Nat.reduceEqDiff, Nat.reduceEqDiff, sp_Wake, e2, e3, R.eq_self]
  refine sp_Encode (boots := 1) awakeR awakeR_ok (by omega) (by omega) h (fun q c H' h' => ?_)
  simp only [joinP_eq, br_true, br_false, req_true, look_cons, look_nil, reduceIte, reduceCtorEq, T_val_v, isKT_k, isKT_agg, isKT_lp, isLK_c, locCells_c, nthV_zero, nthV_one, nthV_two, vals_tuple, aggCells_agg, isAgg_agg, getInt_int, getBool_bool, getStr_str, getPtr_ptr, slPtr_slice, slLen_slice, slCap_slice, isK_int, isK_bool, isK_str, isK_ptr, isK_slice, isTuple_tuple, List.length_cons, List.length_nil, Bool.and_true, Bool.true_and, Bool.or_false, Bool.false_or, Bool.and_self, decide_true, decide_false, Bool.not_true, Bool.not_false, beq_dec, ble_dec, Nat.reduceAdd, Nat.reduceEqDiff, Nat.reduceEqDiff, encR_len]
  exact k _ h'.drop

theorem law_TableWakes (h0 : Sat H H []) (x : R) (x1 x2 : Int) (o : x.inp) (l1 : -9223372036854775808 ≤ x1) (g1 : x1 ≤ 9223372036854775807) (l2 : -9223372036854775808 ≤ x2) (g2 : x2 ≤ 9223372036854775807) :
    Am.Rec.call (Am.Run env) 3 [.agg x.cs, .int .i64 x1, .int .i64 x2] H fun v _ => v = .bool true := by
  conv in x.cs => unfold R.cs
  rw [eq3]
  simp only [R.fold, sp_Wake, isAgg_agg, aggCells_agg, R.fits_cs, R.open_cs, Bool.and_self, req_true]
  refine sp_awake h0 (fun H' h' => ?_)
  simp only [joinP_eq, br_true, br_false, req_true, look_cons, look_nil, reduceIte, reduceCtorEq, T_val_v, isKT_k, isKT_agg, isKT_lp, isLK_c, locCells_c, nthV_zero, nthV_one, nthV_two, vals_tuple, aggCells_agg, isAgg_agg, getInt_int, getBool_bool, getStr_str, getPtr_ptr, slPtr_slice, slLen_slice, slCap_slice, isK_int, isK_bool, isK_str, isK_ptr, isK_slice, isTuple_tuple, List.length_cons, List.length_nil, Bool.and_true, Bool.true_and, Bool.or_false, Bool.false_or, Bool.and_self, decide_true, decide_false, Bool.not_true, Bool.not_false, beq_dec, ble_dec, Nat.reduceAdd, Nat.reduceEqDiff, Nat.reduceEqDiff, sp_rWake, R.fits_cs, R.open_cs, R.eq_self]
  by_cases h : x1 = x2
  · simp [h, wakeR, R.eq_self]
  · simp [h]

theorem law_TableForms (h0 : Sat H H []) (x : R) (o : x.inp) :
    Am.Rec.call (Am.Run env) 5 [.agg x.cs] H fun v _ => v = .bool true := by
  conv in x.cs => unfold R.cs
  rw [eq5]
  refine sp_awake h0 (fun H' h' => ?_)
  simp only [R.fold, joinP_eq, br_true, br_false, req_true, look_cons, look_nil, reduceIte, reduceCtorEq, T_val_v, isKT_k, isKT_agg, isKT_lp, isLK_c, locCells_c, nthV_zero, nthV_one, nthV_two, vals_tuple, aggCells_agg, isAgg_agg, getInt_int, getBool_bool, getStr_str, getPtr_ptr, slPtr_slice, slLen_slice, slCap_slice, isK_int, isK_bool, isK_str, isK_ptr, isK_slice, isTuple_tuple, List.length_cons, List.length_nil, Bool.and_true, Bool.true_and, Bool.or_false, Bool.false_or, Bool.and_self, decide_true, decide_false, Bool.not_true, Bool.not_false, beq_dec, ble_dec, Nat.reduceAdd, Nat.reduceEqDiff, Nat.reduceEqDiff, sp_Form, sp_rForm, form_eq]
  refine sp_near x o.ty o.ge h' (fun H2 h2 => ?_)
  simp only [joinP_eq, br_true, br_false, req_true, look_cons, look_nil, reduceIte, reduceCtorEq, T_val_v, isKT_k, isKT_agg, isKT_lp, isLK_c, locCells_c, nthV_zero, nthV_one, nthV_two, vals_tuple, aggCells_agg, isAgg_agg, getInt_int, getBool_bool, getStr_str, getPtr_ptr, slPtr_slice, slLen_slice, slCap_slice, isK_int, isK_bool, isK_str, isK_ptr, isK_slice, isTuple_tuple, List.length_cons, List.length_nil, Bool.and_true, Bool.true_and, Bool.or_false, Bool.false_or, Bool.and_self, decide_true, decide_false, Bool.not_true, Bool.not_false, beq_dec, ble_dec, Nat.reduceAdd, Nat.reduceEqDiff, Nat.reduceEqDiff, R.fits_cs, R.open_cs, sp_Form, (near_form x o.k o.ty o.ge).1, sp_None]
  rfl

theorem law_TableBack (h0 : Sat H H []) (x : R) (x1 : Int) (o : x.inp) (l1 : 0 ≤ x1) (g1 : x1 ≤ 4294967295) :
    Am.Rec.call (Am.Run env) 7 [.agg x.cs, .int .u32 x1] H fun v _ => v = .bool true := by
  conv in x.cs => unfold R.cs
  rw [eq7]
  refine sp_awake h0 (fun H1 h1 => ?_)
  simp only [R.fold, joinP_eq, br_true, br_false, req_true, look_cons, look_nil, reduceIte, reduceCtorEq, T_val_v, isKT_k, isKT_agg, isKT_lp, isLK_c, locCells_c, nthV_zero, nthV_one, nthV_two, vals_tuple, aggCells_agg, isAgg_agg, getInt_int, getBool_bool, getStr_str, getPtr_ptr, slPtr_slice, slLen_slice, slCap_slice, isK_int, isK_bool, isK_str, isK_ptr, isK_slice, isTuple_tuple, List.length_cons, List.length_nil, Bool.and_true, Bool.true_and, Bool.or_false, Bool.false_or, Bool.and_self, decide_true, decide_false, Bool.not_true, Bool.not_false, beq_dec, ble_dec, Nat.reduceAdd, Nat.reduceEqDiff, Nat.reduceEqDiff]
  refine sp_near x o.ty o.ge h1 (fun H2 h2 => ?_)
  obtain ⟨hf, hok⟩ := near_form x o.k o.ty o.ge
  have hn : IntKind.i64.wrap (Int.fdiv x1 2) = ((x1 / 2).toNat : Int) := by
    rw [Int.fdiv_eq_ediv_of_nonneg _ (by omega), wrap_in (by omega) (by omega)]; omega
  have hn2 : (x1 / 2).toNat < 2147483648 := by omega
  generalize (x1 / 2).toNat = n at hn hn2
  generalize nearR x = r at hf hok ⊢
  simp only [joinP_eq, br_true, br_false, req_true, look_cons, look_nil, reduceIte, reduceCtorEq, T_val_v, isKT_k, isKT_agg, isKT_lp, isLK_c, locCells_c, nthV_zero, nthV_one, nthV_two, vals_tuple, aggCells_agg, isAgg_agg, getInt_int, getBool_bool, getStr_str, getPtr_ptr, slPtr_slice, slLen_slice, slCap_slice, isK_int, isK_bool, isK_str, isK_ptr, isK_slice, isTuple_tuple, List.length_cons, List.length_nil, Bool.and_true, Bool.true_and, Bool.or_false, Bool.false_or, Bool.and_self, decide_true, decide_false, Bool.not_true, Bool.not_false, beq_dec, ble_dec, Nat.reduceAdd, Nat.reduceEqDiff, Nat.reduceEqDiff, R.fits_cs, R.open_cs, hn]
  refine sp_Encode r hok n (by omega) (by omega) h2 (fun q3 c3 H3 h3 => ?_)
  simp only [joinP_eq, br_true, br_false, req_true, look_cons, look_nil, reduceIte, reduceCtorEq, T_val_v, isKT_k, isKT_agg, isKT_lp, isLK_c, locCells_c, nthV_zero, nthV_one, nthV_two, vals_tuple, aggCells_agg, isAgg_agg, getInt_int, getBool_bool, getStr_str, getPtr_ptr, slPtr_slice, slLen_slice, slCap_slice, isK_int, isK_bool, isK_str, isK_ptr, isK_slice, isTuple_tuple, List.length_cons, List.length_nil, Bool.and_true, Bool.true_and, Bool.or_false, Bool.false_or, Bool.and_self, decide_true, decide_false, Bool.not_true, Bool.not_false, beq_dec, ble_dec, Nat.reduceAdd, Nat.reduceEqDiff, Nat.reduceEqDiff]
  obtain ⟨s, hd, hs⟩ := dec_enc hok hf hn2
  refine sp_Decode h3 Rds.byt h3.buf.2.2.1 (fun H4 h4 => ?_)
  rw [hd]
  simp only [decV, hs, joinP_eq, br_true, br_false, req_true, look_cons, look_nil, reduceIte, reduceCtorEq, T_val_v, isKT_k, isKT_agg, isKT_lp, isLK_c, locCells_c, nthV_zero, nthV_one, nthV_two, vals_tuple, aggCells_agg, isAgg_agg, getInt_int, getBool_bool, getStr_str, getPtr_ptr, slPtr_slice, slLen_slice, slCap_slice, isK_int, isK_bool, isK_str, isK_ptr, isK_slice, isTuple_tuple, List.length_cons, List.length_nil, Bool.and_true, Bool.true_and, Bool.or_false, Bool.false_or, Bool.and_self, decide_true, decide_false, Bool.not_true, Bool.not_false, beq_dec, ble_dec, Nat.reduceAdd, Nat.reduceEqDiff, Nat.reduceEqDiff, R.fits_cs, R.open_cs, h4.bytRd.strOk, h4.bytRd.strAt]
  refine ⟨?_, ?_⟩
  · refine sp_rEncode r hok n (by omega) h4 (fun q5 c5 H5 h5 => ?_)
    simp only [joinP_eq, br_true, br_false, req_true, look_cons, look_nil, reduceIte, reduceCtorEq, T_val_v, isKT_k, isKT_agg, isKT_lp, isLK_c, locCells_c, nthV_zero, nthV_one, nthV_two, vals_tuple, aggCells_agg, isAgg_agg, getInt_int, getBool_bool, getStr_str, getPtr_ptr, slPtr_slice, slLen_slice, slCap_slice, isK_int, isK_bool, isK_str, isK_ptr, isK_slice, isTuple_tuple, List.length_cons, List.length_nil, Bool.and_true, Bool.true_and, Bool.or_false, Bool.false_or, Bool.and_self, decide_true, decide_false, Bool.not_true, Bool.not_false, beq_dec, ble_dec, Nat.reduceAdd, Nat.reduceEqDiff, Nat.reduceEqDiff, h5.bytRd.strOk, h5.bytRd.strAt, strEq_of, R.eq_self]
  · refine sp_rEncode r hok n (by omega) h4 (fun q5 c5 H5 h5 => ?_)
    have h6 := h5.up 1
    simp only [joinP_eq, br_true, br_false, req_true, look_cons, look_nil, reduceIte, reduceCtorEq, T_val_v, isKT_k, isKT_agg, isKT_lp, isLK_c, locCells_c, nthV_zero, nthV_one, nthV_two, vals_tuple, aggCells_agg, isAgg_agg, getInt_int, getBool_bool, getStr_str, getPtr_ptr, slPtr_slice, slLen_slice, slCap_slice, isK_int, isK_bool, isK_str, isK_ptr, isK_slice, isTuple_tuple, List.length_cons, List.length_nil, Bool.and_true, Bool.true_and, Bool.or_false, Bool.false_or, Bool.and_self, decide_true, decide_false, Bool.not_true, Bool.not_false, beq_dec, ble_dec, Nat.reduceAdd, Nat.reduceEqDiff, Nat.reduceEqDiff, h5.bytRd.strOk, h5.bytRd.strAt, h6.bytRd.strOk, h6.bytRd.strAt, strEq_of, R.eq_self]

theorem law_TableApart (h0 : Sat H H []) (x y : R) (x2 x3 : Int) (o : x.inp) (p : y.inp) (l2 : 0 ≤ x2) (g2 : x2 ≤ 65535) (l3 : 0 ≤ x3) (g3 : x3 ≤ 65535) :
    Am.Rec.call (Am.Run env) 4 [.agg x.cs, .agg y.cs, .int .u16 x2, .int .u16 x3] H fun v _ => v = .bool true := by
  conv in x.cs => unfold R.cs
  conv in y.cs => unfold R.cs
  rw [eq4]
  simp only [R.fold]
  refine sp_near x o.ty o.ge h0 (fun H1 h1 => ?_)
  simp only [joinP_eq, br_true, br_false, req_true, look_cons, look_nil, reduceIte, reduceCtorEq, T_val_v, isKT_k, isKT_agg, isKT_lp, isLK_c, locCells_c, nthV_zero, nthV_one, nthV_two, vals_tuple, aggCells_agg, isAgg_agg, getInt_int, getBool_bool, getStr_str, getPtr_ptr, slPtr_slice, slLen_slice, slCap_slice, isK_int, isK_bool, isK_str, isK_ptr, isK_slice, isTuple_tuple, List.length_cons, List.length_nil, Bool.and_true, Bool.true_and, Bool.or_false, Bool.false_or, Bool.and_self, decide_true, decide_false, Bool.not_true, Bool.not_false, beq_dec, ble_dec, Nat.reduceAdd, Nat.reduceEqDiff, Nat.reduceEqDiff, R.fits_cs, R.open_cs]
  refine sp_near y p.ty p.ge h1 (fun H2 h2 => ?_)
  obtain ⟨hf, hok⟩ := near_form x o.k o.ty o.ge
  obtain ⟨hf', hok'⟩ := near_form y p.k p.ty p.ge
  have hn : IntKind.i64.wrap x2 = (x2.toNat : Int) := by rw [wrap_in (by omega) (by omega)]; omega
  have hm : IntKind.i64.wrap x3 = (x3.toNat : Int) := by rw [wrap_in (by omega) (by omega)]; omega
  have hnm : x2 = x3 ↔ x2.toNat = x3.toNat := by omega
  have hn2 : x2.toNat < 65536 := by omega
  have hm2 : x3.toNat < 65536 := by omega
  simp only [joinP_eq, br_true, br_false, req_true, look_cons, look_nil, reduceIte, reduceCtorEq, T_val_v, isKT_k, isKT_agg, isKT_lp, isLK_c, locCells_c, nthV_zero, nthV_one, nthV_two, vals_tuple, aggCells_agg, isAgg_agg, getInt_int, getBool_bool, getStr_str, getPtr_ptr, slPtr_slice, slLen_slice, slCap_slice, isK_int, isK_bool, isK_str, isK_ptr, isK_slice, isTuple_tuple, List.length_cons, List.length_nil, Bool.and_true, Bool.true_and, Bool.or_false, Bool.false_or, Bool.and_self, decide_true, decide_false, Bool.not_true, Bool.not_false, beq_dec, ble_dec, Nat.reduceAdd, Nat.reduceEqDiff, Nat.reduceEqDiff, R.fits_cs, R.open_cs, hn, hm]
  generalize x2.toNat = n at hn2 hnm ⊢
  generalize x3.toNat = m at hm2 hnm ⊢
  generalize nearR x = r at hf hok ⊢
  generalize nearR y = s at hf' hok' ⊢
  have key : (cellsEq r.cs s.cs && decide (x2 = x3)) = decide (encR r n = encR s m) := by
    by_cases hrs : r.cs = s.cs
    · by_cases hx : x2 = x3
      · have h3 := hnm.1 hx
        subst h3
        rw [(R.cs_eq_iff r s).2 hrs, decide_eq_true hx, encR_ext hrs]; simp
      · rw [decide_eq_false hx, Bool.and_false]
        symm
        apply decide_eq_false
        intro he
        obtain ⟨s1, d1, _⟩ := dec_enc hok hf (n := n) (by omega)
        obtain ⟨s2, d2, _⟩ := dec_enc hok' hf' (n := m) (by omega)
        rw [he, d2] at d1
        simp only [Option.some.injEq, Prod.mk.injEq] at d1
        exact hx (hnm.2 d1.2.symm)
    · have h3 : cellsEq r.cs s.cs = false := by
        cases h : cellsEq r.cs s.cs
        · rfl
        · exact absurd ((R.cs_eq_iff r s).1 h) hrs
      rw [h3, Bool.false_and]
      symm
      apply decide_eq_false
      intro he
      obtain ⟨s1, d1, c1⟩ := dec_enc hok hf (n := n) (by omega)
      obtain ⟨s2, d2, c2⟩ := dec_enc hok' hf' (n := m) (by omega)
      rw [he, d2] at d1
      simp only [Option.some.injEq, Prod.mk.injEq] at d1
      exact hrs (by rw [← c1, ← c2, d1.1])
  refine sp_awake h2 (fun H3 h3 => ?_)
  simp only [joinP_eq, br_true, br_false, req_true, look_cons, look_nil, reduceIte, reduceCtorEq, T_val_v, isKT_k, isKT_agg, isKT_lp, isLK_c, locCells_c, nthV_zero, nthV_one, nthV_two, vals_tuple, aggCells_agg, isAgg_agg, getInt_int, getBool_bool, getStr_str, getPtr_ptr, slPtr_slice, slLen_slice, slCap_slice, isK_int, isK_bool, isK_str, isK_ptr, isK_slice, isTuple_tuple, List.length_cons, List.length_nil, Bool.and_true, Bool.true_and, Bool.or_false, Bool.false_or, Bool.and_self, decide_true, decide_false, Bool.not_true, Bool.not_false, beq_dec, ble_dec, Nat.reduceAdd, Nat.reduceEqDiff, Nat.reduceEqDiff]
  refine sp_Encode r hok n (by omega) (by omega) h3 (fun q4 c4 H4 h4 => ?_)
  simp only [joinP_eq, br_true, br_false, req_true, look_cons, look_nil, reduceIte, reduceCtorEq, T_val_v, isKT_k, isKT_agg, isKT_lp, isLK_c, locCells_c, nthV_zero, nthV_one, nthV_two, vals_tuple, aggCells_agg, isAgg_agg, getInt_int, getBool_bool, getStr_str, getPtr_ptr, slPtr_slice, slLen_slice, slCap_slice, isK_int, isK_bool, isK_str, isK_ptr, isK_slice, isTuple_tuple, List.length_cons, List.length_nil, Bool.and_true, Bool.true_and, Bool.or_false, Bool.false_or, Bool.and_self, decide_true, decide_false, Bool.not_true, Bool.not_false, beq_dec, ble_dec, Nat.reduceAdd, Nat.reduceEqDiff, Nat.reduceEqDiff, h4.bytRd.strOk, h4.bytRd.strAt]
  refine ⟨?_, ?_⟩
  · refine sp_Encode s hok' m (by omega) (by omega) h4 (fun q5 c5 H5 h5 => ?_)
    simp only [joinP_eq, br_true, br_false, req_true, look_cons, look_nil, reduceIte, reduceCtorEq, T_val_v, isKT_k, isKT_agg, isKT_lp, isLK_c, locCells_c, nthV_zero, nthV_one, nthV_two, vals_tuple, aggCells_agg, isAgg_agg, getInt_int, getBool_bool, getStr_str, getPtr_ptr, slPtr_slice, slLen_slice, slCap_slice, isK_int, isK_bool, isK_str, isK_ptr, isK_slice, isTuple_tuple, List.length_cons, List.length_nil, Bool.and_true, Bool.true_and, Bool.or_false, Bool.false_or, Bool.and_self, decide_true, decide_false, Bool.not_true, Bool.not_false, beq_dec, ble_dec, Nat.reduceAdd, Nat.reduceEqDiff, Nat.reduceEqDiff, h5.bytRd.strOk, h5.bytRd.strAt, strEq_of, key, sp_None, none_cs, R.fits_cs, R.open_cs, sp_rForm, ← form_eq, hf]
    have e1 : (⟨fun _ => 0, 0, -1, 0, false⟩ : R) = R.none0 := rfl
    rw [e1, R.eq_self]
    simp
  · refine sp_Encode s hok' m (by omega) (by omega) h4 (fun q5 c5 H5 h5 => ?_)
    have h6 := h5.up 1
    simp only [joinP_eq, br_true, br_false, req_true, look_cons, look_nil, reduceIte, reduceCtorEq, T_val_v, isKT_k, isKT_agg, isKT_lp, isLK_c, locCells_c, nthV_zero, nthV_one, nthV_two, vals_tuple, aggCells_agg, isAgg_agg, getInt_int, getBool_bool, getStr_str, getPtr_ptr, slPtr_slice, slLen_slice, slCap_slice, isK_int, isK_bool, isK_str, isK_ptr, isK_slice, isTuple_tuple, List.length_cons, List.length_nil, Bool.and_true, Bool.true_and, Bool.or_false, Bool.false_or, Bool.and_self, decide_true, decide_false, Bool.not_true, Bool.not_false, beq_dec, ble_dec, Nat.reduceAdd, Nat.reduceEqDiff, Nat.reduceEqDiff, h5.bytRd.strOk, h5.bytRd.strAt, h6.bytRd.strOk, h6.bytRd.strAt, strEq_of, key, sp_None, none_cs, R.fits_cs, R.open_cs, sp_rForm, ← form_eq, hf]
    have e1 : (⟨fun _ => 0, 0, -1, 0, false⟩ : R) = R.none0 := rfl
    rw [e1, R.eq_self]
    simp

end
end Go.Proofs.Ytpodpakpgolipaa
