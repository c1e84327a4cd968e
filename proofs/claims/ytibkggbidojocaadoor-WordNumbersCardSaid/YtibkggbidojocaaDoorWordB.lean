/- The reader in memory; strings.Builder within it. -/
import Derived.Test.YtibkggbidojocaaDoorWordC
import Derived.Test.YtibkggbidojocaaDoorAmRow
namespace Go.Proofs.YtibkggbidojocaaDoor
open Go.Am Go.Lib
set_option maxRecDepth 100000
set_option linter.unusedSimpArgs false
set_option linter.unusedVariables false
set_option linter.unusedSectionVars false

theorem el_bytes : Am.elemOf env 25 = some (5, 1, 1, [V.int .u8 0]) := by kernel_rfl
theorem sl_bytes : Am.notInt (Am.kindOf env 25) = true := by kernel_rfl
theorem el_str : Am.elemOf env 36 = some (9, 1, 16, [V.str ⟨#[]⟩]) := by kernel_rfl
theorem sl_str : Am.notInt (Am.kindOf env 36) = true := by kernel_rfl
theorem str_z : OneAll [V.str ⟨#[]⟩] := fun v hv => by rw [List.mem_singleton] at hv; subst hv; rfl

abbrev BY (q : Option (Nat × Nat)) (cap : Nat) (bs : List UInt8) : Ast := Byt 5 q cap bs

/-- A text as a cell. -/
def st (b : List UInt8) : List V := [.str (strOf b)]
theorem st_uni (l : List (List UInt8)) : Uni 1 (l.map st) := fun c hc => by
  obtain ⟨b, _, rfl⟩ := List.mem_map.1 hc
  exact ⟨rfl, fun v hv => by unfold st at hv; rw [List.mem_singleton] at hv; subst hv; rfl⟩

section

variable {B : Am.Heap} {L : List Ast} {H : Am.Heap} {K : V → Am.Heap → Prop} {q : Option (Nat × Nat)} {cap : Nat} {bs : List UInt8}

theorem app_bytesQ (h : Sat B H (BY q cap bs :: L)) {x : V} {src : List UInt8} (hx : Src H 1 x src.length (bcells src)) (hb : bs.length + src.length ≤ 1000000000) {K : Option (Nat × Nat) → Nat → Nat → Am.Heap → Prop}
    (k : ∀ q' c' H', (q' = q ∨ ∃ i, q' = some (i, 0)) → Sat B H' (BY q' c' (bs ++ src) :: L) → K q' (bs ++ src).length c' H') : Am.appendOp env [25, 25] [.slice q bs.length cap, x] H K := by
  refine h.appendQ el_bytes sl_bytes (fun v hv => by rw [List.mem_singleton] at hv; subst hv; rfl) rfl (by omega) hx (by omega) (fun q' c' H' hq' h' => ?_)
  rw [← List.length_append]
  refine k q' c' H' hq' ?_
  unfold BY Byt
  rw [List.length_append, bcells_app]
  exact h'

/-- Some bytes behind others. -/
theorem app_lit (h : Sat B H (BY q cap bs :: L)) {cells : List V} {src : List UInt8} (hc : cells = bcells src) (hb : bs.length + src.length ≤ 1000000000) {K : Option (Nat × Nat) → Nat → Nat → Am.Heap → Prop}
    (k : ∀ q' c' H', (q' = q ∨ ∃ i, q' = some (i, 0)) → Sat B H' (BY q' c' (bs ++ src) :: L) → K q' (bs ++ src).length c' H') :
    Am.appendOp env [25, 25] [.slice q bs.length cap, .slice (some (H.next, 0)) src.length src.length] (H.alloc (.cells 5 cells false)) K := by
  subst hc
  have h1 : Sat B (H.alloc (.cells 5 (bcells src) false)) (BY (some (H.next, 0)) src.length src :: BY q cap bs :: L) :=
    h.newBuf (by simp) (bcells_one src) (Nat.le_refl _) (by simp) (by rw [List.take_of_length_le (by simp)])
  have hs := RdB.src h1.bytRd src.length
  refine app_bytesQ h1.swap hs hb (fun q' c' H' hq' h' => k q' c' H' hq' h'.swap.drop)

theorem app_strQ {q : Option (Nat × Nat)} {c : Nat} {l : List (List UInt8)} {b : List UInt8} (h : Sat B H (Rw 9 1 q c (l.map st) :: L)) (hl : l.length ≤ 1000) {K : Option (Nat × Nat) → Nat → Nat → Am.Heap → Prop}
    (k : ∀ q' c' H', Sat B H' (Rw 9 1 q' c' ((l ++ [b]).map st) :: L) → K q' (l ++ [b]).length c' H') :
    Am.appendOp env [36, 36] [.slice q l.length c, .slice (some (H.next, 0)) 1 1] (H.alloc (.cells 9 [V.str (strOf b)] false)) K := by
  have hp := fun K => h.rwPush (t := 36) (u := 36) (K := K) el_str sl_str str_z rfl (by omega) (st_uni l) (e2 := 9) (c := st b) rfl (st_uni [b] (st b) (by simp)).2 (by simp; omega)
  rw [List.length_map] at hp
  refine hp K (fun q' c' H' h' => ?_)
  have e : l.map st ++ [st b] = (l ++ [b]).map st := by simp
  rw [e] at h'
  have e2 : l.length + 1 = (l ++ [b]).length := by simp
  rw [e2]
  exact k q' c' H' h'

/-! ### runes as bytes -/

theorem or192 : ∀ n : Fin 32, (BitVec.ofInt 8 192 ||| BitVec.ofInt 8 (n.val : Int)).toNat = 192 + n.val := by decide +kernel
theorem or224 : ∀ n : Fin 16, (BitVec.ofInt 8 224 ||| BitVec.ofInt 8 (n.val : Int)).toNat = 224 + n.val := by decide +kernel
theorem or240 : ∀ n : Fin 8, (BitVec.ofInt 8 240 ||| BitVec.ofInt 8 (n.val : Int)).toNat = 240 + n.val := by decide +kernel
theorem or128 : ∀ n : Fin 64, (BitVec.ofInt 8 128 ||| BitVec.ofInt 8 (n.val : Int)).toNat = 128 + n.val := by decide +kernel
theorem and63 : ∀ n : Fin 256, (BitVec.ofInt 8 (n.val : Int) &&& BitVec.ofInt 8 63).toNat = n.val % 64 := by decide +kernel

theorem wrap8 (n : Nat) : IntKind.u8.wrap (n : Int) = ((n % 256 : Nat) : Int) := by
  rw [wrap_u8_nat, UInt8.toNat_ofNat']

theorem fdiv_nat (r k : Nat) : Int.fdiv (r : Int) (k : Int) = ((r / k : Nat) : Int) := by
  rw [Int.fdiv_eq_ediv_of_nonneg _ (by omega)]
  rfl

/-- A byte that follows. -/
theorem low_byte (n : Nat) : IntKind.u8.wrap (((BitVec.ofInt 8 128 ||| BitVec.ofInt 8 (IntKind.u8.wrap ((BitVec.ofInt 8 (IntKind.u8.wrap (n : Int)) &&& BitVec.ofInt 8 63).toNat : Int))).toNat : Nat) : Int) = ((128 + n % 64 : Nat) : Int) := by
  rw [wrap8 n, and63 ⟨n % 256, Nat.mod_lt _ (by omega)⟩, wrap8]
  have e : n % 256 % 64 % 256 = n % 64 := by omega
  show IntKind.u8.wrap (((BitVec.ofInt 8 128 ||| BitVec.ofInt 8 ((n % 256 % 64 % 256 : Nat) : Int)).toNat : Nat) : Int) = _
  rw [e, or128 ⟨n % 64, Nat.mod_lt _ (by omega)⟩, wrap8]
  show ((((128 + n % 64) % 256 : Nat)) : Int) = _
  omega

theorem lead192 {n : Nat} (h : n < 32) : IntKind.u8.wrap (((BitVec.ofInt 8 192 ||| BitVec.ofInt 8 (IntKind.u8.wrap (n : Int))).toNat : Nat) : Int) = ((192 + n : Nat) : Int) := by
  rw [wrap8 n, Nat.mod_eq_of_lt (show n < 256 by omega), or192 ⟨n, h⟩, wrap8]
  show ((((192 + n) % 256 : Nat)) : Int) = _
  omega
theorem lead224 {n : Nat} (h : n < 16) : IntKind.u8.wrap (((BitVec.ofInt 8 224 ||| BitVec.ofInt 8 (IntKind.u8.wrap (n : Int))).toNat : Nat) : Int) = ((224 + n : Nat) : Int) := by
  rw [wrap8 n, Nat.mod_eq_of_lt (show n < 256 by omega), or224 ⟨n, h⟩, wrap8]
  show ((((224 + n) % 256 : Nat)) : Int) = _
  omega
theorem lead240 {n : Nat} (h : n < 8) : IntKind.u8.wrap (((BitVec.ofInt 8 240 ||| BitVec.ofInt 8 (IntKind.u8.wrap (n : Int))).toNat : Nat) : Int) = ((240 + n : Nat) : Int) := by
  rw [wrap8 n, Nat.mod_eq_of_lt (show n < 256 by omega), or240 ⟨n, h⟩, wrap8]
  show ((((240 + n) % 256 : Nat)) : Int) = _
  omega

theorem cells_of {l : List Int} (h : ∀ x ∈ l, 0 ≤ x ∧ x < 256) : (l.map fun x => V.int .u8 x) = bcells (l.map fun x => x.toNat.toUInt8) := by
  unfold bcells
  rw [List.map_map]
  refine List.map_congr_left fun x hx => ?_
  have := h x hx
  show V.int .u8 x = V.int .u8 ((UInt8.ofNat x.toNat).toNat : Int)
  rw [UInt8.toNat_ofNat', Nat.mod_eq_of_lt (by omega), Int.toNat_of_nonneg this.1]

theorem enc_cells (r : Int) {l : List Int} (h : encodeRuneZ r = l) : (l.map fun x => V.int .u8 x) = bcells (encodeRune r) := by
  rw [cells_of (fun x hx => encodeRuneZ_byte r x (h ▸ hx)), ← h]
  rfl

/-- utf8.AppendRune. -/
theorem sp_appRune {r : Nat} (h1 : r ≤ 1114111) (h2 : ¬ (55296 ≤ r ∧ r < 57344)) (h : Sat B H (BY q cap bs :: L)) (hb : bs.length ≤ 1000000)
    (k : ∀ q' c' H', (q' = q ∨ ∃ i, q' = some (i, 0)) → Sat B H' (BY q' c' (bs ++ encodeRune (r : Int)) :: L) → K (.slice q' (bs ++ encodeRune (r : Int)).length c') H') :
    Am.Rec.call (Am.Run env) 51 [.slice q bs.length cap, .int .i32 (r : Int)] H K := by
  have ew : IntKind.u32.wrap (r : Int) = (r : Int) := wrap_u32_nat (by omega)
  have hlen : (encodeRune (r : Int)).length ≤ 4 := by
    have := (encodeRuneZ_length (r : Int)).2
    unfold encodeRune
    rw [List.length_map]
    exact this
  have f64 : Int.fdiv (r : Int) 64 = ((r / 64 : Nat) : Int) := fdiv_nat r 64
  have f4096 : Int.fdiv (r : Int) 4096 = ((r / 4096 : Nat) : Int) := fdiv_nat r 4096
  have f262144 : Int.fdiv (r : Int) 262144 = ((r / 262144 : Nat) : Int) := fdiv_nat r 262144
  have hcase : r ≤ 127 ∨ (128 ≤ r ∧ r ≤ 2047) ∨ (2048 ≤ r ∧ r < 55296) ∨ (57344 ≤ r ∧ r ≤ 65535) ∨ 65536 ≤ r := by omega
  rcases hcase with c1 | c2 | c3 | c3 | c4
  · have d1 : (r : Int) ≤ 127 := by omega
    have hz := encodeRuneZ_one (r := (r : Int)) (by omega) (by omega)
    have hc := enc_cells (r : Int) hz
    have hl1 : (encodeRune (r : Int)).length = 1 := by unfold encodeRune; rw [hz]; rfl
    have ew8 : IntKind.u8.wrap (r : Int) = (r : Int) := by rw [wrap8, Nat.mod_eq_of_lt (by omega)]
    rw [eq51]
    simp only [ew, d1, decide_true, br_true, ew8]
    have := app_lit h hc (by omega) (K := fun q n c H' => K (V.slice q n c) H') k
    rw [hl1] at this
    exact this
  · have d1 : ¬ (r : Int) ≤ 127 := by omega
    have d2 : (r : Int) ≤ 2047 := by omega
    have hz := encodeRuneZ_two (r := (r : Int)) (by omega) (by omega)
    have hc := enc_cells (r : Int) hz
    have hl2 : (encodeRune (r : Int)).length = 2 := by unfold encodeRune; rw [hz]; rfl
    have e1 : ((192 + r / 64 : Nat) : Int) = 192 + (r : Int) / 64 := by omega
    have e2 : ((128 + r % 64 : Nat) : Int) = 128 + (r : Int) % 64 := by omega
    rw [eq51]
    simp only [ew, d1, decide_false, br_false]
    rw [eq57]
    simp only [ew, d2, decide_true, br_true, f64, low_byte, lead192 (show r / 64 < 32 by omega), e1, e2]
    have := app_lit h hc (by omega) (K := fun q n c H' => K (V.slice q n c) H') k
    rw [hl2] at this
    simp only [joinP_eq, br_true, br_false, req_true, look_cons, look_nil, reduceIte, reduceCtorEq, T_val_v, isKT_k, isKT_agg, isKT_lp, isLK_c, locCells_c, nthV_zero, nthV_one, nthV_two, vals_tuple, aggCells_agg, isAgg_agg, getInt_int, getBool_bool, getStr_str, getPtr_ptr, slPtr_slice, slLen_slice, slCap_slice, isK_int, isK_bool, isK_str, isK_ptr, isK_slice, isTuple_tuple, List.length_cons, List.length_nil, Bool.and_true, Bool.true_and, Bool.or_false, Bool.false_or, Bool.and_self, decide_true, decide_false, Bool.not_true, Bool.not_false, beq_dec, ble_dec, Nat.reduceAdd, Nat.reduceEqDiff, Nat.reduceEqDiff]
    exact this
  · have hz := encodeRuneZ_three (r := (r : Int)) (by omega)
    have hc := enc_cells (r : Int) hz
    have hl3 : (encodeRune (r : Int)).length = 3 := by unfold encodeRune; rw [hz]; rfl
    have e1 : ((224 + r / 4096 : Nat) : Int) = 224 + (r : Int) / 4096 := by omega
    have e2 : ((128 + r / 64 % 64 : Nat) : Int) = 128 + (r : Int) / 64 % 64 := by omega
    have e3 : ((128 + r % 64 : Nat) : Int) = 128 + (r : Int) % 64 := by omega
    have := app_lit h hc (by omega) (K := fun q n c H' => K (V.slice q n c) H') k
    rw [hl3] at this
    have d1 : ¬ (r : Int) ≤ 127 := by omega
    have d2 : ¬ (r : Int) ≤ 2047 := by omega
    have d4 : (r : Int) < 55296 := by omega
    have ld := lead224 (show r / 4096 < 16 by omega)
    rw [eq51]
    simp only [ew, d1, decide_false, br_false]
    rw [eq57]
    simp only [ew, d2, d4, joinP_eq, br_true, br_false, req_true, look_cons, look_nil, reduceIte, reduceCtorEq, T_val_v, isKT_k, isKT_agg, isKT_lp, isLK_c, locCells_c, nthV_zero, nthV_one, nthV_two, vals_tuple, aggCells_agg, isAgg_agg, getInt_int, getBool_bool, getStr_str, getPtr_ptr, slPtr_slice, slLen_slice, slCap_slice, isK_int, isK_bool, isK_str, isK_ptr, isK_slice, isTuple_tuple, List.length_cons, List.length_nil, Bool.and_true, Bool.true_and, Bool.or_false, Bool.false_or, Bool.and_self, decide_true, decide_false, Bool.not_true, Bool.not_false, beq_dec, ble_dec, Nat.reduceAdd, Nat.reduceEqDiff, Nat.reduceEqDiff, f64, f4096, low_byte, ld, e1, e2, e3]
    exact this
  · have hz := encodeRuneZ_three (r := (r : Int)) (by omega)
    have hc := enc_cells (r : Int) hz
    have hl3 : (encodeRune (r : Int)).length = 3 := by unfold encodeRune; rw [hz]; rfl
    have e1 : ((224 + r / 4096 : Nat) : Int) = 224 + (r : Int) / 4096 := by omega
    have e2 : ((128 + r / 64 % 64 : Nat) : Int) = 128 + (r : Int) / 64 % 64 := by omega
    have e3 : ((128 + r % 64 : Nat) : Int) = 128 + (r : Int) % 64 := by omega
    have := app_lit h hc (by omega) (K := fun q n c H' => K (V.slice q n c) H') k
    rw [hl3] at this
    have d1 : ¬ (r : Int) ≤ 127 := by omega
    have d2 : ¬ (r : Int) ≤ 2047 := by omega
    have d4 : ¬ (r : Int) < 55296 := by omega
    have d5 : (57343 : Int) < (r : Int) := by omega
    have d6 : (r : Int) ≤ 65535 := by omega
    have ld := lead224 (show r / 4096 < 16 by omega)
    rw [eq51]
    simp only [ew, d1, decide_false, br_false]
    rw [eq57]
    simp only [ew, d2, d4, d5, d6, joinP_eq, br_true, br_false, req_true, look_cons, look_nil, reduceIte, reduceCtorEq, T_val_v, isKT_k, isKT_agg, isKT_lp, isLK_c, locCells_c, nthV_zero, nthV_one, nthV_two, vals_tuple, aggCells_agg, isAgg_agg, getInt_int, getBool_bool, getStr_str, getPtr_ptr, slPtr_slice, slLen_slice, slCap_slice, isK_int, isK_bool, isK_str, isK_ptr, isK_slice, isTuple_tuple, List.length_cons, List.length_nil, Bool.and_true, Bool.true_and, Bool.or_false, Bool.false_or, Bool.and_self, decide_true, decide_false, Bool.not_true, Bool.not_false, beq_dec, ble_dec, Nat.reduceAdd, Nat.reduceEqDiff, Nat.reduceEqDiff, f64, f4096, low_byte, ld, e1, e2, e3]
    exact this
  · have hz := encodeRuneZ_four (r := (r : Int)) (by omega) (by omega)
    have hc := enc_cells (r : Int) hz
    have hl4 : (encodeRune (r : Int)).length = 4 := by unfold encodeRune; rw [hz]; rfl
    have e1 : ((240 + r / 262144 : Nat) : Int) = 240 + (r : Int) / 262144 := by omega
    have e2 : ((128 + r / 4096 % 64 : Nat) : Int) = 128 + (r : Int) / 4096 % 64 := by omega
    have e3 : ((128 + r / 64 % 64 : Nat) : Int) = 128 + (r : Int) / 64 % 64 := by omega
    have e4 : ((128 + r % 64 : Nat) : Int) = 128 + (r : Int) % 64 := by omega
    have := app_lit h hc (by omega) (K := fun q n c H' => K (V.slice q n c) H') k
    rw [hl4] at this
    have d1 : ¬ (r : Int) ≤ 127 := by omega
    have d2 : ¬ (r : Int) ≤ 2047 := by omega
    have d4 : ¬ (r : Int) < 55296 := by omega
    have d5 : (57343 : Int) < (r : Int) := by omega
    have d6 : ¬ (r : Int) ≤ 65535 := by omega
    have d7 : (r : Int) > 65535 := by omega
    have d8 : (r : Int) ≤ 1114111 := by omega
    have ld := lead240 (show r / 262144 < 8 by omega)
    rw [eq51]
    simp only [ew, d1, decide_false, br_false]
    rw [eq57]
    simp only [ew, d2, d4, d5, d6, d7, d8, joinP_eq, br_true, br_false, req_true, look_cons, look_nil, reduceIte, reduceCtorEq, T_val_v, isKT_k, isKT_agg, isKT_lp, isLK_c, locCells_c, nthV_zero, nthV_one, nthV_two, vals_tuple, aggCells_agg, isAgg_agg, getInt_int, getBool_bool, getStr_str, getPtr_ptr, slPtr_slice, slLen_slice, slCap_slice, isK_int, isK_bool, isK_str, isK_ptr, isK_slice, isTuple_tuple, List.length_cons, List.length_nil, Bool.and_true, Bool.true_and, Bool.or_false, Bool.false_or, Bool.and_self, decide_true, decide_false, Bool.not_true, Bool.not_false, beq_dec, ble_dec, Nat.reduceAdd, Nat.reduceEqDiff, Nat.reduceEqDiff, f64, f4096, f262144, low_byte, ld, e1, e2, e3, e4]
    exact this

end

end Go.Proofs.YtibkggbidojocaaDoor
