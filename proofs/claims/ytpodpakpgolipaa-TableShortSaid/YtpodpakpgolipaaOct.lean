/- Numbers in bytes: what the code and the document make of them. -/
import Derived.Test.YtpodpakpgolipaaEqs13
import Derived.Test.YtpodpakpgolipaaAmByt
namespace Go.Proofs.Ytpodpakpgolipaa
open Go.Am
set_option maxRecDepth 100000
set_option linter.unusedSimpArgs false
set_option linter.unusedVariables false
set_option linter.unusedSectionVars false

theorem el_bytes : Am.elemOf env 31 = some (5, 1, 1, [V.int .u8 0]) := by kernel_rfl
theorem sl_bytes : Am.notInt (Am.kindOf env 31) = true := by kernel_rfl

abbrev BY (q : Option (Nat × Nat)) (cap : Nat) (bs : List UInt8) : Ast := Byt 5 q cap bs

section
variable {B : Am.Heap} {L : List Ast} {H : Am.Heap} {K : V → Am.Heap → Prop} {q : Option (Nat × Nat)} {cap : Nat} {bs : List UInt8}

theorem bytNil (h : Sat B H L) : Sat B H (BY none 0 [] :: L) := h.bufNil _ _

/-- Bytes behind others. -/
theorem app_bytes (h : Sat B H (BY q cap bs :: L)) {x : V} {src : List UInt8} (hx : Src H 1 x src.length (bcells src)) (hb : bs.length + src.length ≤ 1000000000) {K : Option (Nat × Nat) → Nat → Nat → Am.Heap → Prop}
    (k : ∀ q' c' H', Sat B H' (BY q' c' (bs ++ src) :: L) → K q' (bs ++ src).length c' H') : Am.appendOp env [31, 31] [.slice q bs.length cap, x] H K := by
  refine h.append el_bytes sl_bytes (fun v hv => by rw [List.mem_singleton] at hv; subst hv; rfl) rfl (by omega) hx (by omega) (fun q' c' H' h' => ?_)
  rw [← List.length_append]
  refine k q' c' H' ?_
  unfold BY Byt
  rw [List.length_append, bcells_app]
  exact h'

/-- One byte behind others, out of a row of one. -/
theorem app_byte (h : Sat B H (BY q cap bs :: L)) (b : UInt8) (hb : bs.length + 1 ≤ 1000000000) {K : Option (Nat × Nat) → Nat → Nat → Am.Heap → Prop}
    (k : ∀ q' c' H', Sat B H' (BY q' c' (bs ++ [b]) :: L) → K q' (bs ++ [b]).length c' H') :
    Am.appendOp env [31, 31] [.slice q bs.length cap, .slice (some (H.next, 0)) 1 1] (H.alloc (.cells 5 [V.int .u8 b.toNat] false)) K := by
  have h1 := h.alloc 5 [V.int .u8 b.toNat]
  have hr : RdB (H.alloc (.cells 5 [V.int .u8 b.toNat] false)) (some (H.next, 0)) [b] := .inr ⟨_, 0, _, _, _, rfl, h1.get, rfl⟩
  exact app_bytes h1.drop (src := [b]) (hr.src 1) hb k

theorem app_byte' (h : Sat B H (BY q cap bs :: L)) (b : UInt8) {n : Int} (hn : n = (b.toNat : Int)) (hb : bs.length + 1 ≤ 1000000000) {K : Option (Nat × Nat) → Nat → Nat → Am.Heap → Prop}
    (k : ∀ q' c' H', Sat B H' (BY q' c' (bs ++ [b]) :: L) → K q' (bs ++ [b]).length c' H') :
    Am.appendOp env [31, 31] [.slice q bs.length cap, .slice (some (H.next, 0)) 1 1] (H.alloc (.cells 5 [V.int .u8 n] false)) K := by
  subst hn; exact app_byte h b hb k

theorem lp_Put (n size : Nat) (hs : size ≤ 8) (bs : List UInt8) (hb : bs.length + size ≤ 1000000000) {Kr : Am.St → Prop} {Ke : Nat → Am.St → Prop} : ∀ (k i : Nat) {q : Option (Nat × Nat)} {cap : Nat} {H : Am.Heap}, i + k = size →
    Sat B H (BY q cap (bs ++ le n i) :: L) →
    (∀ q' c' H', Sat B H' (BY q' c' (bs ++ le n size) :: L) → Ke 0 (St.mk (Am.look [(0, T.v (V.slice q' (bs ++ le n size).length c'))]) (Am.look []) H')) →
    Am.Rec.loop (Am.Run env) (Am.loopAt env 32 2) 32 2
      (St.mk (Am.look [(0, T.v (V.slice q (bs ++ le n i).length cap)), (1, T.v (V.int .u64 (n : Int))), (8, T.v (V.int .i64 (size : Int))), (9, T.v (V.int .i64 (i : Int)))]) (Am.look []) H) Kr Ke
  | 0, i, q, cap, H, hi, h, hk => by
    obtain rfl : i = size := by omega
    rw [lp32_2]
    have e1 : decide ((i : Int) < (i : Int)) = false := by simp
    rw [e1, br_false]
    exact hk _ _ _ h
  | k + 1, i, q, cap, H, hi, h, hk => by
    rw [lp32_2]
    have e1 : decide ((i : Int) < (size : Int)) = true := by simp; omega
    rw [e1, br_true, shift_ok (by omega), req_true, put_byte n (by omega)]
    refine app_byte h _ (by simp; omega) (fun q' c' H' h' => ?_)
    rw [wrap_succ (by omega)]
    rw [List.append_assoc, ← le_snoc] at h' ⊢
    exact lp_Put n size hs bs hb k (i + 1) (by omega) h' hk

/-- octet.Put: a number in so many bytes, behind others. -/
theorem sp_Put (n size : Nat) (h : Sat B H (BY q cap bs :: L)) (hs : size ≤ 8) (hb : bs.length + size ≤ 1000000000)
    (k : ∀ q' c' H', Sat B H' (BY q' c' (bs ++ le n size) :: L) → K (.slice q' (bs ++ le n size).length c') H') :
    Am.Rec.call (Am.Run env) 32 [.slice q bs.length cap, .int .u64 (n : Int), .int .i64 (size : Int)] H K := by
  rw [eq32]
  have := lp_Put (B := B) (L := L) n size hs bs hb (Kr := fun _ => False) (Ke := fun j S' => br (Nat.beq j 0) (req (Am.isKT (KT.k Kind.slice) (S'.1 0) || false || false) (K (V.slice (V.slPtr (T.val (S'.1 0))) (V.slLen (T.val (S'.1 0))) (V.slCap (T.val (S'.1 0)))) S'.3)) False)
    size 0 (q := q) (cap := cap) (H := H) (by omega) (by simpa [le] using h) (fun q' c' H' h' => by simpa [joinP_eq, br_true, br_false, req_true, look_cons, look_nil, reduceIte, reduceCtorEq, T_val_v, isKT_k, isKT_agg, isKT_lp, isLK_c, locCells_c, nthV_zero, nthV_one, nthV_two, vals_tuple, aggCells_agg, isAgg_agg, getInt_int, getBool_bool, getStr_str, getPtr_ptr, slPtr_slice, slLen_slice, slCap_slice, isK_int, isK_bool, isK_str, isK_ptr, isK_slice, isTuple_tuple, List.length_cons, List.length_nil, Bool.and_true, Bool.true_and, Bool.or_false, Bool.false_or, Bool.and_self, decide_true, decide_false, Bool.not_true, Bool.not_false, beq_dec, ble_dec, Nat.reduceAdd, Nat.reduceEqDiff, Nat.reduceEqDiff] using k q' c' H' h')
  simpa [le] using this

/-- octet.Get: the number of some bytes. -/
theorem lp_Get (hr : RdB H q bs) (hb : bs.length ≤ 8) {Kr : Am.St → Prop} {Ke : Nat → Am.St → Prop} : ∀ (k i : Nat), i + k = bs.length →
    Am.Rec.loop (Am.Run env) (Am.loopAt env 54 3) 54 3
      (St.mk (Am.look [(3, T.v (V.int .u64 (unle (bs.take i) : Nat))), (6, T.v (V.slice q bs.length cap)), (7, T.v (V.int .i64 (bs.length : Int))), (8, T.v (V.int .i64 (i : Int)))]) (Am.look []) H) Kr Ke =
    Ke 0 (St.mk (Am.look [(3, T.v (V.int .u64 (unle bs : Nat)))]) (Am.look []) H)
  | 0, i, hi => by
    obtain rfl : i = bs.length := by omega
    rw [lp54_3, List.take_length]
    have e1 : decide ((bs.length : Int) < (bs.length : Int)) = false := by simp
    rw [e1, br_false]
  | k + 1, i, hi => by
    have hlt : i < bs.length := by omega
    obtain ⟨h1, h2, h3⟩ := hr.at hlt
    rw [lp54_3]
    have e1 : decide ((i : Int) < (bs.length : Int)) = true := by simp; omega
    have e2 : decide (0 ≤ (i : Int)) = true := by simp
    have e3 : 0 + ((i : Int)).toNat * 1 = i := by simp
    have e4 : (i : Int).toNat * 1 = i := by simp
    rw [e1, br_true, e2, h1, e4, h2, h3]
    simp only [Bool.and_self, req_true, isK_int, getInt_int]
    rw [shift_ok (by omega), req_true, wrap_succ (by omega), get_byte (Nat.lt_of_lt_of_le (unle_lt _) (by rw [List.length_take]; exact Nat.pow_le_pow_right (by omega) (by omega))) bs[i].toNat_lt (by omega)]
    have e5 : unle (bs.take i) + bs[i].toNat * 256 ^ i = unle (bs.take (i + 1)) := by
      rw [List.take_succ_eq_append_getElem hlt, unle_append]
      simp [unle, Nat.mul_comm]
      rw [Nat.min_eq_left (by omega)]
    rw [e5]
    exact lp_Get hr hb k (i + 1) (by omega)

theorem sp_Get (hr : RdB H q bs) (hb : bs.length ≤ 8) : Am.Rec.call (Am.Run env) 54 [.slice q bs.length cap] H K = K (.int .u64 (unle bs : Nat)) H := by
  rw [eq54]
  have := lp_Get (cap := cap) hr hb (Kr := fun _ => False) (Ke := fun j S' => br (Nat.beq j 0) (req (Am.isKT (KT.k (Kind.int IntKind.u64)) (S'.1 3) || false || false) (K (V.int IntKind.u64 (V.getInt (T.val (S'.1 3)))) S'.3)) False) bs.length 0 (by omega)
  simp only [List.take_zero, unle] at this
  refine this.trans ?_
  simp [joinP_eq, br_true, br_false, req_true, look_cons, look_nil, reduceIte, reduceCtorEq, T_val_v, isKT_k, isKT_agg, isKT_lp, isLK_c, locCells_c, nthV_zero, nthV_one, nthV_two, vals_tuple, aggCells_agg, isAgg_agg, getInt_int, getBool_bool, getStr_str, getPtr_ptr, slPtr_slice, slLen_slice, slCap_slice, isK_int, isK_bool, isK_str, isK_ptr, isK_slice, isTuple_tuple, List.length_cons, List.length_nil, Bool.and_true, Bool.true_and, Bool.or_false, Bool.false_or, Bool.and_self, decide_true, decide_false, Bool.not_true, Bool.not_false, beq_dec, ble_dec, Nat.reduceAdd, Nat.reduceEqDiff, Nat.reduceEqDiff]

/-- drawbarref01.Put. -/
theorem lp_rPut (size : Nat) (hs : size ≤ 8) {Kr : Am.St → Prop} {Ke : Nat → Am.St → Prop} : ∀ (k i n : Nat) (bs : List UInt8) {q : Option (Nat × Nat)} {cap : Nat} {H : Am.Heap}, n < 18446744073709551616 → bs.length = i → i + k = size →
    Sat B H (BY q cap bs :: L) →
    (∀ q' c' H', Sat B H' (BY q' c' (bs ++ le n k) :: L) → Ke 0 (St.mk (Am.look [(5, T.v (V.slice q' (bs ++ le n k).length c'))]) (Am.look []) H')) →
    Am.Rec.loop (Am.Run env) (Am.loopAt env 41 3) 41 3
      (St.mk (Am.look [(0, T.v (V.int .u64 (n : Int))), (1, T.v (V.int .i64 (size : Int))), (5, T.v (V.slice q bs.length cap)), (6, T.v (V.int .i64 (i : Int)))]) (Am.look []) H) Kr Ke
  | 0, i, n, bs, q, cap, H, hn, hl, hi, h, hk => by
    obtain rfl : i = size := by omega
    rw [lp41_3]
    have e1 : decide ((i : Int) < (i : Int)) = false := by simp
    rw [e1, br_false]
    simpa [le] using hk _ _ _ (by simpa [le] using h)
  | k + 1, i, n, bs, q, cap, H, hn, hl, hi, h, hk => by
    rw [lp41_3]
    have e1 : decide ((i : Int) < (size : Int)) = true := by simp; omega
    have e2 : IntKind.u8.wrap (Int.tmod (n : Int) 256) = ((UInt8.ofNat n).toNat : Int) := by
      rw [Int.tmod_eq_emod_of_nonneg (by omega), IntKind.wrap_u8]; simp
    have e3 : IntKind.u64.wrap (Int.tdiv (n : Int) 256) = ((n / 256 : Nat) : Int) := by
      rw [Int.tdiv_eq_ediv_of_nonneg (by omega), IntWalk.u64_in _ (by omega)]; omega
    rw [e1, br_true, e2]
    refine app_byte h _ (by omega) (fun q' c' H' h' => ?_)
    rw [wrap_succ (by omega), e3]
    refine lp_rPut size hs k (i + 1) (n / 256) (bs ++ [UInt8.ofNat n]) (by omega) (by simp; omega) (by omega) h' (fun q2 c2 H2 h2 => ?_)
    have e4 : bs ++ [UInt8.ofNat n] ++ le (n / 256) k = bs ++ le n (k + 1) := by simp [le]
    rw [e4] at h2 ⊢
    exact hk _ _ _ h2

theorem sp_rPut (n size : Nat) (h : Sat B H L) (hn : n < 18446744073709551616) (hs : size ≤ 8)
    (k : ∀ q' c' H', Sat B H' (BY q' c' (le n size) :: L) → K (.slice q' (le n size).length c') H') :
    Am.Rec.call (Am.Run env) 41 [.int .u64 (n : Int), .int .i64 (size : Int)] H K := by
  rw [eq41]
  exact lp_rPut (B := B) (L := L) size hs size 0 n [] hn rfl (by omega) (bytNil h) (fun q' c' H' h' => by simpa [joinP_eq, br_true, br_false, req_true, look_cons, look_nil, reduceIte, reduceCtorEq, T_val_v, isKT_k, isKT_agg, isKT_lp, isLK_c, locCells_c, nthV_zero, nthV_one, nthV_two, vals_tuple, aggCells_agg, isAgg_agg, getInt_int, getBool_bool, getStr_str, getPtr_ptr, slPtr_slice, slLen_slice, slCap_slice, isK_int, isK_bool, isK_str, isK_ptr, isK_slice, isTuple_tuple, List.length_cons, List.length_nil, Bool.and_true, Bool.true_and, Bool.or_false, Bool.false_or, Bool.and_self, decide_true, decide_false, Bool.not_true, Bool.not_false, beq_dec, ble_dec, Nat.reduceAdd, Nat.reduceEqDiff, Nat.reduceEqDiff] using k q' c' H' h')

/-- drawbarref01.Get. -/
theorem lp_rGet (hr : RdB H q bs) (hb : bs.length ≤ 8) {Kr : Am.St → Prop} {Ke : Nat → Am.St → Prop} : ∀ (k : Nat), k ≤ bs.length →
    Am.Rec.loop (Am.Run env) (Am.loopAt env 42 3) 42 3
      (St.mk (Am.look [(0, T.v (V.slice q bs.length cap)), (3, T.v (V.int .u64 (unle (bs.drop k) : Nat))), (4, T.v (V.int .i64 ((k : Int) - 1)))]) (Am.look []) H) Kr Ke =
    Ke 0 (St.mk (Am.look [(3, T.v (V.int .u64 (unle bs : Nat)))]) (Am.look []) H)
  | 0, hk => by
    rw [lp42_3]
    have e1 : decide (((0 : Nat) : Int) - 1 ≥ 0) = false := by simp
    rw [e1, br_false, List.drop_zero]
  | k + 1, hk => by
    have hlt : k < bs.length := by omega
    obtain ⟨h1, h2, h3⟩ := hr.at hlt
    rw [lp42_3]
    have e0 : (((k + 1 : Nat) : Int) - 1) = (k : Int) := by omega
    rw [e0]
    have e1 : decide ((k : Int) ≥ 0) = true := by simp
    have e3 : decide ((k : Int) < (bs.length : Int)) = true := by simp; omega
    have e4 : (k : Int).toNat * 1 = k := by simp
    rw [e1, br_true, e3, h1, e4, h2, h3]
    simp only [Bool.and_self, req_true, isK_int, getInt_int]
    have hb1 := bs[k].toNat_lt
    have hu : unle (bs.drop (k + 1)) < 256 ^ 7 := Nat.lt_of_lt_of_le (unle_lt _) (by rw [List.length_drop]; exact Nat.pow_le_pow_right (by omega) (by omega))
    have e6 : unle (bs.drop k) = bs[k].toNat + 256 * unle (bs.drop (k + 1)) := by rw [List.drop_eq_getElem_cons hlt, unle]
    have e5 : IntKind.u64.wrap (IntKind.u64.wrap ((unle (bs.drop (k + 1)) : Nat) * 256 : Int) + IntKind.u64.wrap ((bs[k].toNat : Nat) : Int)) = (unle (bs.drop k) : Nat) := by
      rw [e6, IntWalk.u64_in ((unle (bs.drop (k + 1)) : Nat) * 256 : Int) (by omega), wrap_u64_nat (by omega), IntWalk.u64_in _ (by omega)]
      omega
    rw [e5, wrap_in (by omega) (by omega)]
    exact lp_rGet hr hb k (by omega)

theorem sp_rGet (hr : RdB H q bs) (hb : bs.length ≤ 8) : Am.Rec.call (Am.Run env) 42 [.slice q bs.length cap] H K = K (.int .u64 (unle bs : Nat)) H := by
  rw [eq42, wrap_in (by omega) (by omega)]
  have := lp_rGet (cap := cap) hr hb (Kr := fun _ => False) (Ke := fun j S' => br (Nat.beq j 0) (req (Am.isKT (KT.k (Kind.int IntKind.u64)) (S'.1 3) || false || false) (K (V.int IntKind.u64 (V.getInt (T.val (S'.1 3)))) S'.3)) False) bs.length (by omega)
  simp only [List.drop_length, unle] at this
  refine this.trans ?_
  simp [joinP_eq, br_true, br_false, req_true, look_cons, look_nil, reduceIte, reduceCtorEq, T_val_v, isKT_k, isKT_agg, isKT_lp, isLK_c, locCells_c, nthV_zero, nthV_one, nthV_two, vals_tuple, aggCells_agg, isAgg_agg, getInt_int, getBool_bool, getStr_str, getPtr_ptr, slPtr_slice, slLen_slice, slCap_slice, isK_int, isK_bool, isK_str, isK_ptr, isK_slice, isTuple_tuple, List.length_cons, List.length_nil, Bool.and_true, Bool.true_and, Bool.or_false, Bool.false_or, Bool.and_self, decide_true, decide_false, Bool.not_true, Bool.not_false, beq_dec, ble_dec, Nat.reduceAdd, Nat.reduceEqDiff, Nat.reduceEqDiff]

end
end Go.Proofs.Ytpodpakpgolipaa
