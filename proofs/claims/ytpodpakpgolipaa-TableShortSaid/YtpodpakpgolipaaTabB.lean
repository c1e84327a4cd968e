/- The table as bytes, and back. -/
import Derived.Test.YtpodpakpgolipaaTabA
import Derived.Test.YtpodpakpgolipaaRdr
namespace Go.Proofs.Ytpodpakpgolipaa
open Go.Am
set_option maxRecDepth 100000
set_option linter.unusedSimpArgs false
set_option linter.unusedVariables false
set_option linter.unusedSectionVars false

structure R.ok (r : R) : Prop where
  k : ∀ i, 0 ≤ r.k i ∧ r.k i ≤ 4294967295
  ty : 0 ≤ r.ty ∧ r.ty ≤ 255
  ho : -1 ≤ r.ho ∧ r.ho ≤ 254
  ge : 0 ≤ r.ge ∧ r.ge ≤ 4294967295

def encK (k : Nat → Int) : Nat → List UInt8
  | 0 => []
  | n + 1 => encK k n ++ le (k n).toNat 4

theorem encK_len (k : Nat → Int) : ∀ n, (encK k n).length = 4 * n
  | 0 => rfl
  | n + 1 => by rw [encK, List.length_append, encK_len k n, le_len]; omega

/-- A table's bytes. -/
def encR (r : R) (boots : Nat) : List UInt8 :=
  encK r.k 8 ++ le r.ty.toNat 1 ++ le (r.ho + 1).toNat 1 ++ le r.ge.toNat 4 ++ le (if r.la = true then 1 else 0) 1 ++ le boots 4

theorem encR_len (r : R) (boots : Nat) : (encR r boots).length = 43 := by
  simp [encR, encK_len]

theorem u64_of_nat {x : Int} (h0 : 0 ≤ x) (h1 : x ≤ 18446744073709551615) : IntKind.u64.wrap x = (x.toNat : Int) := by
  rw [IntWalk.u64_in _ ⟨h0, h1⟩]; omega

section
variable {B : Am.Heap} {L : List Ast} {H : Am.Heap} {K : V → Am.Heap → Prop} {q : Option (Nat × Nat)} {cap : Nat}

theorem lp_Encode (r : R) (hr : r.ok) (x1 : Int) {Kr : Am.St → Prop} {Ke : Nat → Am.St → Prop} : ∀ (n i : Nat) {q : Option (Nat × Nat)} {cap : Nat} {H : Am.Heap}, i + n = 8 → Sat B H (BY q cap (encK r.k i) :: L) →
    (∀ q' c' H', Sat B H' (BY q' c' (encK r.k 8) :: L) → Ke 0 (St.mk (Am.look [(1, T.v (V.int .i64 x1)), (2, T.lp 2 0), (5, T.v (V.slice q' (encK r.k 8).length c'))]) (Am.look [(2, Loc.cells 25 r.cs)]) H')) →
    Am.Rec.loop (Am.Run env) (Am.loopAt env 17 3) 17 3
      (St.mk (Am.look [(1, T.v (V.int .i64 x1)), (2, T.lp 2 0), (5, T.v (V.slice q (encK r.k i).length cap)), (10, T.v (V.agg (c23 (r.k 0) (r.k 1) (r.k 2) (r.k 3) (r.k 4) (r.k 5) (r.k 6) (r.k 7)))), (11, T.v (V.int .i64 (i : Int)))])
        (Am.look [(2, Loc.cells 25 r.cs)]) H) Kr Ke
  | 0, i, q, cap, H, hi, h, k => by
    obtain rfl : i = 8 := by omega
    have := k _ _ _ h
    unfold R.cs at this ⊢
    rw [lp17_3]
    exact this
  | n + 1, i, q, cap, H, hi, h, k => by
    have e1 : decide ((i : Int) < 8) = true := by simp; omega
    have e2 : decide (0 ≤ (i : Int)) = true := by simp
    have e3 : Int.toNat (i : Int) * 1 = i := by simp
    have e6 : Nat.ble (Nat.succ i) 8 = true := by simp; omega
    have e7 := hr.k i
    unfold R.cs
    rw [lp17_3, wrap_succ (by omega)]
    simp only [e1, e2, e3, e6, nth_keys r.k (show i < 8 by omega), isK_int, getInt_int, br_true, req_true, Bool.and_self]
    rw [u64_of_nat e7.1 (by omega)]
    refine sp_Put (r.k i).toNat 4 h (by omega) (by rw [encK_len]; omega) (fun q' c' H' h' => ?_)
    simp only [joinP_eq, br_true, br_false, req_true, look_cons, look_nil, reduceIte, reduceCtorEq, T_val_v, isKT_k, isKT_agg, isKT_lp, isLK_c, locCells_c, nthV_zero, nthV_one, nthV_two, vals_tuple, aggCells_agg, isAgg_agg, getInt_int, getBool_bool, getStr_str, getPtr_ptr, slPtr_slice, slLen_slice, slCap_slice, isK_int, isK_bool, isK_str, isK_ptr, isK_slice, isTuple_tuple, List.length_cons, List.length_nil, Bool.and_true, Bool.true_and, Bool.or_false, Bool.false_or, Bool.and_self, decide_true, decide_false, Bool.not_true, Bool.not_false, beq_dec, ble_dec, Nat.reduceAdd, Nat.reduceEqDiff, Nat.reduceEqDiff]
    exact lp_Encode r hr x1 n (i + 1) (by omega) h' k

theorem sp_Encode (r : R) (hr : r.ok) (boots : Nat) (hb : boots < 18446744073709551616) (hb' : boots < 9223372036854775808) (h : Sat B H L) (k : ∀ q' c' H', Sat B H' (BY q' c' (encR r boots) :: L) → K (.slice q' (encR r boots).length c') H') :
    Am.Rec.call (Am.Run env) 17 [.agg r.cs, .int .i64 (boots : Int)] H K := by
  unfold R.cs
  rw [eq17]
  refine lp_Encode (q := none) (cap := 0) r hr boots 8 0 (by omega) (bytNil h) (fun q1 c1 H1 h1 => ?_)
  unfold R.cs
  simp only [joinP_eq, br_true, br_false, req_true, look_cons, look_nil, reduceIte, reduceCtorEq, T_val_v, isKT_k, isKT_agg, isKT_lp, isLK_c, locCells_c, nthV_zero, nthV_one, nthV_two, vals_tuple, aggCells_agg, isAgg_agg, getInt_int, getBool_bool, getStr_str, getPtr_ptr, slPtr_slice, slLen_slice, slCap_slice, isK_int, isK_bool, isK_str, isK_ptr, isK_slice, isTuple_tuple, List.length_cons, List.length_nil, Bool.and_true, Bool.true_and, Bool.or_false, Bool.false_or, Bool.and_self, decide_true, decide_false, Bool.not_true, Bool.not_false, beq_dec, ble_dec, Nat.reduceAdd, Nat.reduceEqDiff, Nat.reduceEqDiff, f24, oc24, n24_0, n24_1, n24_2, n24_3, n24_4, n24_5, n24_6, n24_7, n24_8, n24_9, n24_10, n24_11]
  have k1 := hr.ty
  have k2 := hr.ho
  have k3 := hr.ge
  rw [u64_of_nat k1.1 (by omega)]
  refine sp_Put r.ty.toNat 1 h1 (by omega) (by rw [encK_len]; omega) (fun q2 c2 H2 h2 => ?_)
  simp only [joinP_eq, br_true, br_false, req_true, look_cons, look_nil, reduceIte, reduceCtorEq, T_val_v, isKT_k, isKT_agg, isKT_lp, isLK_c, locCells_c, nthV_zero, nthV_one, nthV_two, vals_tuple, aggCells_agg, isAgg_agg, getInt_int, getBool_bool, getStr_str, getPtr_ptr, slPtr_slice, slLen_slice, slCap_slice, isK_int, isK_bool, isK_str, isK_ptr, isK_slice, isTuple_tuple, List.length_cons, List.length_nil, Bool.and_true, Bool.true_and, Bool.or_false, Bool.false_or, Bool.and_self, decide_true, decide_false, Bool.not_true, Bool.not_false, beq_dec, ble_dec, Nat.reduceAdd, Nat.reduceEqDiff, Nat.reduceEqDiff]
  rw [wrap_in (by omega) (by omega), u64_of_nat (by omega) (by omega)]
  refine sp_Put (r.ho + 1).toNat 1 h2 (by omega) (by simp [encK_len]) (fun q3 c3 H3 h3 => ?_)
  have hfin : ∀ (b : Bool), r.la = b → req (Am.isKT (KT.k (Kind.int IntKind.u64)) (some (T.v (V.int IntKind.u64 (((if r.la = true then 1 else 0 : Nat)) : Int)))) || false || false)
      (Am.Rec.call (Am.Run env) 32 [V.slice q3 (encK r.k 8 ++ le r.ty.toNat 1 ++ le (r.ho + 1).toNat 1).length c3, V.int IntKind.u64 (IntKind.u64.wrap r.ge), V.int IntKind.i64 4] H3 fun v H' =>
        req (V.isK Kind.slice v) (Am.Rec.call (Am.Run env) 32 [V.slice (V.slPtr v) (V.slLen v) (V.slCap v), V.int IntKind.u64 (((if r.la = true then 1 else 0 : Nat)) : Int), V.int IntKind.i64 1] H' fun v H' =>
          req (V.isK Kind.slice v) (Am.Rec.call (Am.Run env) 32 [V.slice (V.slPtr v) (V.slLen v) (V.slCap v), V.int IntKind.u64 (IntKind.u64.wrap boots), V.int IntKind.i64 4] H' fun v H' =>
            req (V.isK Kind.slice v) (K (V.slice (V.slPtr v) (V.slLen v) (V.slCap v)) H')))) := by
    intro b hb0
    rw [u64_of_nat k3.1 (by omega), wrap_u64_nat hb]
    simp only [joinP_eq, br_true, br_false, req_true, look_cons, look_nil, reduceIte, reduceCtorEq, T_val_v, isKT_k, isKT_agg, isKT_lp, isLK_c, locCells_c, nthV_zero, nthV_one, nthV_two, vals_tuple, aggCells_agg, isAgg_agg, getInt_int, getBool_bool, getStr_str, getPtr_ptr, slPtr_slice, slLen_slice, slCap_slice, isK_int, isK_bool, isK_str, isK_ptr, isK_slice, isTuple_tuple, List.length_cons, List.length_nil, Bool.and_true, Bool.true_and, Bool.or_false, Bool.false_or, Bool.and_self, decide_true, decide_false, Bool.not_true, Bool.not_false, beq_dec, ble_dec, Nat.reduceAdd, Nat.reduceEqDiff, Nat.reduceEqDiff]
    refine sp_Put r.ge.toNat 4 h3 (by omega) (by simp [encK_len]) (fun q4 c4 H4 h4 => ?_)
    simp only [joinP_eq, br_true, br_false, req_true, look_cons, look_nil, reduceIte, reduceCtorEq, T_val_v, isKT_k, isKT_agg, isKT_lp, isLK_c, locCells_c, nthV_zero, nthV_one, nthV_two, vals_tuple, aggCells_agg, isAgg_agg, getInt_int, getBool_bool, getStr_str, getPtr_ptr, slPtr_slice, slLen_slice, slCap_slice, isK_int, isK_bool, isK_str, isK_ptr, isK_slice, isTuple_tuple, List.length_cons, List.length_nil, Bool.and_true, Bool.true_and, Bool.or_false, Bool.false_or, Bool.and_self, decide_true, decide_false, Bool.not_true, Bool.not_false, beq_dec, ble_dec, Nat.reduceAdd, Nat.reduceEqDiff, Nat.reduceEqDiff]
    refine sp_Put _ 1 h4 (by omega) (by simp [encK_len]) (fun q5 c5 H5 h5 => ?_)
    simp only [joinP_eq, br_true, br_false, req_true, look_cons, look_nil, reduceIte, reduceCtorEq, T_val_v, isKT_k, isKT_agg, isKT_lp, isLK_c, locCells_c, nthV_zero, nthV_one, nthV_two, vals_tuple, aggCells_agg, isAgg_agg, getInt_int, getBool_bool, getStr_str, getPtr_ptr, slPtr_slice, slLen_slice, slCap_slice, isK_int, isK_bool, isK_str, isK_ptr, isK_slice, isTuple_tuple, List.length_cons, List.length_nil, Bool.and_true, Bool.true_and, Bool.or_false, Bool.false_or, Bool.and_self, decide_true, decide_false, Bool.not_true, Bool.not_false, beq_dec, ble_dec, Nat.reduceAdd, Nat.reduceEqDiff, Nat.reduceEqDiff]
    refine sp_Put boots 4 h5 (by omega) (by simp [encK_len]) (fun q6 c6 H6 h6 => ?_)
    simp only [joinP_eq, br_true, br_false, req_true, look_cons, look_nil, reduceIte, reduceCtorEq, T_val_v, isKT_k, isKT_agg, isKT_lp, isLK_c, locCells_c, nthV_zero, nthV_one, nthV_two, vals_tuple, aggCells_agg, isAgg_agg, getInt_int, getBool_bool, getStr_str, getPtr_ptr, slPtr_slice, slLen_slice, slCap_slice, isK_int, isK_bool, isK_str, isK_ptr, isK_slice, isTuple_tuple, List.length_cons, List.length_nil, Bool.and_true, Bool.true_and, Bool.or_false, Bool.false_or, Bool.and_self, decide_true, decide_false, Bool.not_true, Bool.not_false, beq_dec, ble_dec, Nat.reduceAdd, Nat.reduceEqDiff, Nat.reduceEqDiff]
    exact k _ _ _ h6
  have := hfin r.la rfl
  cases hl : r.la
  · simpa [hl, joinP_eq, br_true, br_false, req_true, look_cons, look_nil, reduceIte, reduceCtorEq, T_val_v, isKT_k, isKT_agg, isKT_lp, isLK_c, locCells_c, nthV_zero, nthV_one, nthV_two, vals_tuple, aggCells_agg, isAgg_agg, getInt_int, getBool_bool, getStr_str, getPtr_ptr, slPtr_slice, slLen_slice, slCap_slice, isK_int, isK_bool, isK_str, isK_ptr, isK_slice, isTuple_tuple, List.length_cons, List.length_nil, Bool.and_true, Bool.true_and, Bool.or_false, Bool.false_or, Bool.and_self, decide_true, decide_false, Bool.not_true, Bool.not_false, beq_dec, ble_dec, Nat.reduceAdd, Nat.reduceEqDiff, Nat.reduceEqDiff] using this
  · simpa [hl, joinP_eq, br_true, br_false, req_true, look_cons, look_nil, reduceIte, reduceCtorEq, T_val_v, isKT_k, isKT_agg, isKT_lp, isLK_c, locCells_c, nthV_zero, nthV_one, nthV_two, vals_tuple, aggCells_agg, isAgg_agg, getInt_int, getBool_bool, getStr_str, getPtr_ptr, slPtr_slice, slLen_slice, slCap_slice, isK_int, isK_bool, isK_str, isK_ptr, isK_slice, isTuple_tuple, List.length_cons, List.length_nil, Bool.and_true, Bool.true_and, Bool.or_false, Bool.false_or, Bool.and_self, decide_true, decide_false, Bool.not_true, Bool.not_false, beq_dec, ble_dec, Nat.reduceAdd, Nat.reduceEqDiff, Nat.reduceEqDiff] using this

theorem lp_rEncode (r : R) (hr : r.ok) (x1 : Int) {Kr : Am.St → Prop} {Ke : Nat → Am.St → Prop} : ∀ (n i : Nat) {q : Option (Nat × Nat)} {cap : Nat} {H : Am.Heap}, i + n = 8 → Sat B H (BY q cap (encK r.k i) :: L) →
    (∀ q' c' H', Sat B H' (BY q' c' (encK r.k 8) :: L) → Ke 0 (St.mk (Am.look [(1, T.v (V.int .i64 x1)), (2, T.lp 2 0), (5, T.v (V.slice q' (encK r.k 8).length c'))]) (Am.look [(2, Loc.cells 25 r.cs)]) H')) →
    Am.Rec.loop (Am.Run env) (Am.loopAt env 26 3) 26 3
      (St.mk (Am.look [(1, T.v (V.int .i64 x1)), (2, T.lp 2 0), (5, T.v (V.slice q (encK r.k i).length cap)), (6, T.v (V.int .i64 (i : Int)))])
        (Am.look [(2, Loc.cells 25 r.cs)]) H) Kr Ke
  | 0, i, q, cap, H, hi, h, k => by
    obtain rfl : i = 8 := by omega
    have := k _ _ _ h
    unfold R.cs at this ⊢
    rw [lp26_3]
    exact this
  | n + 1, i, q, cap, H, hi, h, k => by
    have e1 : decide ((i : Int) < 8) = true := by simp; omega
    have e2 : decide (0 ≤ (i : Int)) = true := by simp
    have e3 : 0 + Int.toNat (i : Int) * 1 = i := by simp
    have e6 : Nat.ble (Nat.succ i) 12 = true := by simp; omega
    have e7 := hr.k i
    unfold R.cs
    rw [lp26_3, wrap_succ (by omega)]
    simp only [e1, e2, e3, e6, nth_key r (show i < 8 by omega), isK_int, getInt_int, br_true, req_true, Bool.and_self]
    rw [u64_of_nat e7.1 (by omega)]
    refine sp_rPut (r.k i).toNat 4 h (by omega) (by omega) (fun q' c' H' h' => ?_)
    simp only [joinP_eq, br_true, br_false, req_true, look_cons, look_nil, reduceIte, reduceCtorEq, T_val_v, isKT_k, isKT_agg, isKT_lp, isLK_c, locCells_c, nthV_zero, nthV_one, nthV_two, vals_tuple, aggCells_agg, isAgg_agg, getInt_int, getBool_bool, getStr_str, getPtr_ptr, slPtr_slice, slLen_slice, slCap_slice, isK_int, isK_bool, isK_str, isK_ptr, isK_slice, isTuple_tuple, List.length_cons, List.length_nil, Bool.and_true, Bool.true_and, Bool.or_false, Bool.false_or, Bool.and_self, decide_true, decide_false, Bool.not_true, Bool.not_false, beq_dec, ble_dec, Nat.reduceAdd, Nat.reduceEqDiff, Nat.reduceEqDiff]
    refine app_bytes (h'.up 1) (h'.bytRd.src c') (by rw [encK_len, le_len]; omega) (fun q2 c2 H2 h2 => ?_)
    exact lp_rEncode r hr x1 n (i + 1) (by omega) (h2.up 1).drop k

theorem sp_rEncode (r : R) (hr : r.ok) (boots : Nat) (hb : boots < 18446744073709551616) (h : Sat B H L) (k : ∀ q' c' H', Sat B H' (BY q' c' (encR r boots) :: L) → K (.slice q' (encR r boots).length c') H') :
    Am.Rec.call (Am.Run env) 26 [.agg r.cs, .int .i64 (boots : Int)] H K := by
  unfold R.cs
  rw [eq26]
  refine lp_rEncode (q := none) (cap := 0) r hr boots 8 0 (by omega) (bytNil h) (fun q1 c1 H1 h1 => ?_)
  unfold R.cs
  simp only [joinP_eq, br_true, br_false, req_true, look_cons, look_nil, reduceIte, reduceCtorEq, T_val_v, isKT_k, isKT_agg, isKT_lp, isLK_c, locCells_c, nthV_zero, nthV_one, nthV_two, vals_tuple, aggCells_agg, isAgg_agg, getInt_int, getBool_bool, getStr_str, getPtr_ptr, slPtr_slice, slLen_slice, slCap_slice, isK_int, isK_bool, isK_str, isK_ptr, isK_slice, isTuple_tuple, List.length_cons, List.length_nil, Bool.and_true, Bool.true_and, Bool.or_false, Bool.false_or, Bool.and_self, decide_true, decide_false, Bool.not_true, Bool.not_false, beq_dec, ble_dec, Nat.reduceAdd, Nat.reduceEqDiff, Nat.reduceEqDiff, f24, oc24, n24_0, n24_1, n24_2, n24_3, n24_4, n24_5, n24_6, n24_7, n24_8, n24_9, n24_10, n24_11]
  have k1 := hr.ty
  have k2 := hr.ho
  have k3 := hr.ge
  have e1 : r.ty = ((UInt8.ofNat r.ty.toNat).toNat : Int) := by simp; omega
  have e2 : IntKind.u8.wrap (IntKind.i64.wrap (r.ho + 1)) = ((UInt8.ofNat (r.ho + 1).toNat).toNat : Int) := by
    rw [wrap_in (by omega) (by omega), ← wrap_u8_nat]; congr 1; omega
  rw [e2]
  have e3 : ([V.int .u8 r.ty, V.int .u8 ((UInt8.ofNat (r.ho + 1).toNat).toNat : Int)] : List V) = bcells [UInt8.ofNat r.ty.toNat, UInt8.ofNat (r.ho + 1).toNat] := by
    rw [bcells, List.map_cons, List.map_cons, List.map_nil, ← e1]
  rw [e3]
  have hal := h1.alloc 5 (bcells [UInt8.ofNat r.ty.toNat, UInt8.ofNat (r.ho + 1).toNat])
  have hrd : RdB (H1.alloc (.cells 5 (bcells [UInt8.ofNat r.ty.toNat, UInt8.ofNat (r.ho + 1).toNat]) false)) (some (H1.next, 0)) [UInt8.ofNat r.ty.toNat, UInt8.ofNat (r.ho + 1).toNat] :=
    .inr ⟨_, 0, _, _, _, rfl, hal.get, rfl⟩
  refine app_bytes hal.drop (hrd.src 2) (by rw [encK_len]; simp) (fun q2 c2 H2 h2 => ?_)
  rw [u64_of_nat k3.1 (by omega)]
  refine sp_rPut r.ge.toNat 4 h2 (by omega) (by omega) (fun q3 c3 H3 h3 => ?_)
  simp only [joinP_eq, br_true, br_false, req_true, look_cons, look_nil, reduceIte, reduceCtorEq, T_val_v, isKT_k, isKT_agg, isKT_lp, isLK_c, locCells_c, nthV_zero, nthV_one, nthV_two, vals_tuple, aggCells_agg, isAgg_agg, getInt_int, getBool_bool, getStr_str, getPtr_ptr, slPtr_slice, slLen_slice, slCap_slice, isK_int, isK_bool, isK_str, isK_ptr, isK_slice, isTuple_tuple, List.length_cons, List.length_nil, Bool.and_true, Bool.true_and, Bool.or_false, Bool.false_or, Bool.and_self, decide_true, decide_false, Bool.not_true, Bool.not_false, beq_dec, ble_dec, Nat.reduceAdd, Nat.reduceEqDiff, Nat.reduceEqDiff]
  refine app_bytes (h3.up 1) (h3.bytRd.src c3) (by simp [encK_len]) (fun q4 c4 H4 h4 => ?_)
  replace h4 := (h4.up 1).drop
  have fin : ∀ {q5 c5 H5}, Sat B H5 (BY q5 c5 (encK r.k 8 ++ [UInt8.ofNat r.ty.toNat, UInt8.ofNat (r.ho + 1).toNat] ++ le r.ge.toNat 4 ++ le (if r.la = true then 1 else 0) 1) :: L) →
      Am.Rec.call (Am.Run env) 41 [V.int IntKind.u64 (IntKind.u64.wrap (boots : Int)), V.int IntKind.i64 4] H5 fun v H' =>
        req (V.isK Kind.slice v) (Am.appendOp env [31, 31] [V.slice q5 (encK r.k 8 ++ [UInt8.ofNat r.ty.toNat, UInt8.ofNat (r.ho + 1).toNat] ++ le r.ge.toNat 4 ++ le (if r.la = true then 1 else 0) 1).length c5, V.slice (V.slPtr v) (V.slLen v) (V.slCap v)] H' fun q n c H' => K (V.slice q n c) H') := by
    intro q5 c5 H5 h5
    rw [wrap_u64_nat hb]
    refine sp_rPut boots 4 h5 (by omega) (by omega) (fun q6 c6 H6 h6 => ?_)
    simp only [joinP_eq, br_true, br_false, req_true, look_cons, look_nil, reduceIte, reduceCtorEq, T_val_v, isKT_k, isKT_agg, isKT_lp, isLK_c, locCells_c, nthV_zero, nthV_one, nthV_two, vals_tuple, aggCells_agg, isAgg_agg, getInt_int, getBool_bool, getStr_str, getPtr_ptr, slPtr_slice, slLen_slice, slCap_slice, isK_int, isK_bool, isK_str, isK_ptr, isK_slice, isTuple_tuple, List.length_cons, List.length_nil, Bool.and_true, Bool.true_and, Bool.or_false, Bool.false_or, Bool.and_self, decide_true, decide_false, Bool.not_true, Bool.not_false, beq_dec, ble_dec, Nat.reduceAdd, Nat.reduceEqDiff, Nat.reduceEqDiff]
    refine app_bytes (h6.up 1) (h6.bytRd.src c6) (by simp [encK_len]) (fun q7 c7 H7 h7 => ?_)
    have e5 : encK r.k 8 ++ [UInt8.ofNat r.ty.toNat, UInt8.ofNat (r.ho + 1).toNat] ++ le r.ge.toNat 4 ++ le (if r.la = true then 1 else 0) 1 ++ le boots 4 = encR r boots := by
      simp [encR, le]
    rw [e5] at h7 ⊢
    exact k _ _ _ (h7.up 1).drop
  cases hl : r.la
  · simp only [br_false]
    refine app_byte' h4 (UInt8.ofNat 0) rfl (by simp [encK_len]) (fun q5 c5 H5 h5 => ?_)
    have := fin (q5 := q5) (c5 := c5) (H5 := H5) (by simpa [hl, le, outA] using h5)
    simpa [hl, le, joinP_eq, br_true, br_false, req_true, look_cons, look_nil, reduceIte, reduceCtorEq, T_val_v, isKT_k, isKT_agg, isKT_lp, isLK_c, locCells_c, nthV_zero, nthV_one, nthV_two, vals_tuple, aggCells_agg, isAgg_agg, getInt_int, getBool_bool, getStr_str, getPtr_ptr, slPtr_slice, slLen_slice, slCap_slice, isK_int, isK_bool, isK_str, isK_ptr, isK_slice, isTuple_tuple, List.length_cons, List.length_nil, Bool.and_true, Bool.true_and, Bool.or_false, Bool.false_or, Bool.and_self, decide_true, decide_false, Bool.not_true, Bool.not_false, beq_dec, ble_dec, Nat.reduceAdd, Nat.reduceEqDiff, Nat.reduceEqDiff] using this
  · simp only [br_true]
    refine app_byte' h4 (UInt8.ofNat 1) rfl (by simp [encK_len]) (fun q5 c5 H5 h5 => ?_)
    have := fin (q5 := q5) (c5 := c5) (H5 := H5) (by simpa [hl, le, outA] using h5)
    simpa [hl, le, joinP_eq, br_true, br_false, req_true, look_cons, look_nil, reduceIte, reduceCtorEq, T_val_v, isKT_k, isKT_agg, isKT_lp, isLK_c, locCells_c, nthV_zero, nthV_one, nthV_two, vals_tuple, aggCells_agg, isAgg_agg, getInt_int, getBool_bool, getStr_str, getPtr_ptr, slPtr_slice, slLen_slice, slCap_slice, isK_int, isK_bool, isK_str, isK_ptr, isK_slice, isTuple_tuple, List.length_cons, List.length_nil, Bool.and_true, Bool.true_and, Bool.or_false, Bool.false_or, Bool.and_self, decide_true, decide_false, Bool.not_true, Bool.not_false, beq_dec, ble_dec, Nat.reduceAdd, Nat.reduceEqDiff, Nat.reduceEqDiff] using this

end
end Go.Proofs.Ytpodpakpgolipaa
