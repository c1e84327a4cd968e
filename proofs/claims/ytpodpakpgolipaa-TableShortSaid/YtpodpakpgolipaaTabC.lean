/- Bytes as a table: the code's reader, and the document's places, come to the same. -/
import Derived.Test.YtpodpakpgolipaaTabB
namespace Go.Proofs.Ytpodpakpgolipaa
open Go.Am
set_option maxRecDepth 100000
set_option linter.unusedSimpArgs false
set_option linter.unusedVariables false
set_option linter.unusedSectionVars false

def rdK (s : RS) : Nat → RS × (Nat → Int)
  | 0 => (s, fun _ => 0)
  | n + 1 => (((rdK s n).1.num 4 4294967295).2, upd (rdK s n).2 n (((rdK s n).1.num 4 4294967295).1 : Nat))

structure Dec5 where
  r : R
  n : Nat
  e : RS

def dec5s (s : RS × (Nat → Int)) : Dec5 :=
  let a := s.1.num 1 255
  let b := a.2.num 1 8
  let c := b.2.num 4 4294967295
  let d := c.2.num 1 1
  let e := d.2.num 4 2147483647
  ⟨⟨s.2, (a.1 : Nat), (b.1 : Nat) - 1, (c.1 : Nat), decide ((d.1 : Int) = 1)⟩, e.1, e.2⟩

def dec5 (bs : List UInt8) : Dec5 := dec5s (rdK ⟨bs, false⟩ 8)

def decP (bs : List UInt8) : Option (R × Nat) :=
  if (dec5 bs).e.bad = false ∧ (dec5 bs).e.bs = [] ∧ formR (dec5 bs).r = true then some ((dec5 bs).r, (dec5 bs).n) else none

def parseR (bs : List UInt8) : R :=
  ⟨fun i => if i < 8 then (unle ((bs.drop (4 * i)).take 4) : Nat) else 0, (bs.getD 32 0).toNat, ((bs.getD 33 0).toNat : Int) - 1, (unle ((bs.drop 34).take 4) : Nat), decide (((bs.getD 38 0).toNat : Int) = 1)⟩

def goodL (bs : List UInt8) : Bool := decide (bs.length = 43) && (decide ((bs.getD 33 0).toNat ≤ 8) && (decide ((bs.getD 38 0).toNat ≤ 1) && decide ((bs.getD 42 0).toNat ≤ 127)))

/-- The table of some bytes. -/
def decD (bs : List UInt8) : Option (R × Nat) :=
  if goodL bs = true ∧ formR (parseR bs) = true then some (parseR bs, unle ((bs.drop 39).take 4)) else none

theorem num_le (s : RS) (size most : Nat) : (s.num size most).1 ≤ most := by
  unfold RS.num
  split
  · exact Nat.zero_le _
  · simp only []; omega

theorem unle4 (l : List UInt8) : unle (l.take 4) ≤ 4294967295 := by
  have := unle_lt (l.take 4)
  have h : (256 : Nat) ^ (l.take 4).length ≤ 256 ^ 4 := Nat.pow_le_pow_right (by omega) (by rw [List.length_take]; omega)
  have h2 : (256 : Nat) ^ 4 = 4294967296 := by decide
  omega

theorem rdK_good (bs : List UInt8) : ∀ n, 4 * n ≤ bs.length → rdK ⟨bs, false⟩ n = (⟨bs.drop (4 * n), false⟩, fun i => if i < n then ((unle ((bs.drop (4 * i)).take 4) : Nat) : Int) else 0)
  | 0, _ => by simp [rdK]
  | n + 1, h => by
    rw [rdK, rdK_good bs n (by omega)]
    simp only []
    rw [num_good (by simp; omega) (unle4 _)]
    simp only [List.drop_drop]
    refine Prod.ext ?_ ?_
    · simp only []
      congr 1
    · funext i
      simp only [upd]
      by_cases h1 : i = n
      · subst h1; simp
      · by_cases h2 : i < n
        · have : i < n + 1 := by omega
          simp [h1, h2, this]
        · have : ¬ i < n + 1 := by omega
          simp [h1, h2, this]

theorem rdK_len (bs : List UInt8) : ∀ n, (rdK ⟨bs, false⟩ n).1.bad = false → 4 * n ≤ bs.length
  | 0, _ => by omega
  | n + 1, h => by
    rw [rdK] at h
    obtain ⟨h1, h2, _, _⟩ := num_bad_len h
    have := rdK_len bs n h1
    rw [rdK_good bs n this] at h2
    simp at h2
    omega

theorem getD_take1 {bs : List UInt8} {i : Nat} (h : i < bs.length) : (bs.drop i).take 1 = [bs.getD i 0] := by
  rw [List.drop_eq_getElem_cons h]
  simp only [List.getD, List.getElem?_eq_getElem h, Option.getD_some, List.take_succ_cons, List.take_zero]

theorem unle_take1 {bs : List UInt8} {i : Nat} (h : i < bs.length) : unle ((bs.drop i).take 1) = (bs.getD i 0).toNat := by
  rw [getD_take1 h]; simp [unle]

theorem unle_last {bs : List UInt8} (h : bs.length = 43) : unle ((bs.drop 39).take 4) ≤ 2147483647 ↔ (bs.getD 42 0).toNat ≤ 127 := by
  have e : (bs.drop 39).take 4 = (bs.drop 39).take 3 ++ [bs.getD 42 0] := by
    rw [List.take_add_one, List.getElem?_drop]
    simp [List.getD, h]
  have h3 := unle_lt ((bs.drop 39).take 3)
  have hl : ((bs.drop 39).take 3).length = 3 := by simp [h]
  rw [e, unle_append, hl]
  rw [hl] at h3
  have h2 : (256 : Nat) ^ 3 = 16777216 := by decide
  rw [h2] at h3 ⊢
  simp only [unle]
  omega

theorem dec_eq (bs : List UInt8) : decP bs = decD bs := by
  unfold decP decD
  by_cases hl : bs.length = 43
  · have h1 : rdK ⟨bs, false⟩ 8 = _ := rdK_good bs 8 (by omega)
    have h2 : (RS.mk (bs.drop 32) false).num 1 255 = _ := num_good (by simp; omega) (by rw [unle_take1 (by omega)]; have := (bs.getD 32 0).toNat_lt; omega)
    by_cases h33 : (bs.getD 33 0).toNat ≤ 8
    · have h3 : (RS.mk (bs.drop 33) false).num 1 8 = _ := num_good (by simp; omega) (by rw [unle_take1 (by omega)]; exact h33)
      have h4 : (RS.mk (bs.drop 34) false).num 4 4294967295 = _ := num_good (by simp; omega) (unle4 _)
      by_cases h38 : (bs.getD 38 0).toNat ≤ 1
      · have h5 : (RS.mk (bs.drop 38) false).num 1 1 = _ := num_good (by simp; omega) (by rw [unle_take1 (by omega)]; exact h38)
        by_cases h42 : (bs.getD 42 0).toNat ≤ 127
        · have h6 : (RS.mk (bs.drop 39) false).num 4 2147483647 = _ := num_good (by simp; omega) ((unle_last hl).2 h42)
          have hd : dec5 bs = ⟨parseR bs, unle ((bs.drop 39).take 4), ⟨[], false⟩⟩ := by
            unfold dec5 dec5s parseR
            simp only [h1, h2, List.drop_drop, h3, h4, h5, h6, unle_take1 (show 32 < bs.length by omega), unle_take1 (show 33 < bs.length by omega), unle_take1 (show 38 < bs.length by omega)]
            simp [hl]
          have hg : goodL bs = true := by unfold goodL; rw [decide_eq_true hl, decide_eq_true h33, decide_eq_true h38, decide_eq_true h42]; rfl
          rw [hd, hg]
          simp
        · have h6 : (RS.mk (bs.drop 39) false).num 4 2147483647 = _ := num_much (by simp; omega) (by have := unle_last hl; omega)
          have hd : (dec5 bs).e.bad = true := by
            unfold dec5 dec5s
            simp only [h1, h2, List.drop_drop, h3, h4, h5, h6]
          have hg : goodL bs = false := by unfold goodL; rw [decide_eq_false h42]; simp
          rw [hd, hg]; simp
      · have h5 : (RS.mk (bs.drop 38) false).num 1 1 = _ := num_much (by simp; omega) (by rw [unle_take1 (by omega)]; omega)
        have hd : (dec5 bs).e.bad = true := by
          unfold dec5 dec5s
          simp only [h1, h2, List.drop_drop, h3, h4, h5]
          exact num_bad rfl
        have hg : goodL bs = false := by unfold goodL; rw [decide_eq_false h38]; simp
        rw [hd, hg]; simp
    · have h3 : (RS.mk (bs.drop 33) false).num 1 8 = _ := num_much (by simp; omega) (by rw [unle_take1 (by omega)]; omega)
      have hd : (dec5 bs).e.bad = true := by
        unfold dec5 dec5s
        simp only [h1, h2, List.drop_drop, h3]
        exact num_bad (num_bad (num_bad rfl))
      have hg : goodL bs = false := by unfold goodL; rw [decide_eq_false h33]; simp
      rw [hd, hg]; simp
  · have hg : goodL bs = false := by unfold goodL; rw [decide_eq_false hl]; simp
    rw [hg, if_neg (fun h : false = true ∧ _ => by cases h.1), if_neg]
    rintro ⟨hb, he, _⟩
    unfold dec5 dec5s at hb he
    simp only [] at hb he
    obtain ⟨b1, l1, _, e1⟩ := num_bad_len hb
    obtain ⟨b2, l2, _, e2⟩ := num_bad_len b1
    obtain ⟨b3, l3, _, e3⟩ := num_bad_len b2
    obtain ⟨b4, l4, _, e4⟩ := num_bad_len b3
    obtain ⟨b5, l5, _, e5⟩ := num_bad_len b4
    have hk := rdK_len bs 8 b5
    have h1 : rdK ⟨bs, false⟩ 8 = _ := rdK_good bs 8 hk
    rw [e1, e2, e3, e4, e5, h1] at he
    rw [e2, e3, e4, e5, h1] at l1
    rw [List.drop_drop, List.drop_drop, List.drop_drop, List.drop_drop, List.drop_drop, List.drop_eq_nil_iff] at he
    simp at l1
    omega

section
variable {B : Am.Heap} {L : List Ast} {H : Am.Heap} {K : V → Am.Heap → Prop} {q : Option (Nat × Nat)} {cap : Nat} {bs : List UInt8} {id : Nat}

theorem lp_Decode {Kr : Am.St → Prop} {Ke : Nat → Am.St → Prop} : ∀ (n i : Nat) {H : Am.Heap}, i + n = 8 → RdrAt B H L id (rdK ⟨bs, false⟩ i).1 →
    (∀ H', RdrAt B H' L id (rdK ⟨bs, false⟩ 8).1 → Ke 0 (St.mk (Am.look [(2, T.lp 2 0), (5, T.v (V.ptr (some (id, 0)))), (6, T.lp 6 0)])
        (Am.look [(2, Loc.cells 25 (c24 0 0 0 0 0 0 0 0 0 0 0 false)), (6, Loc.cells 25 (R.cs ⟨(rdK ⟨bs, false⟩ 8).2, 0, 0, 0, false⟩))]) H')) →
    Am.Rec.loop (Am.Run env) (Am.loopAt env 25 4) 25 4
      (St.mk (Am.look [(2, T.lp 2 0), (5, T.v (V.ptr (some (id, 0)))), (6, T.lp 6 0), (11, T.v (V.int .i64 (i : Int)))])
        (Am.look [(2, Loc.cells 25 (c24 0 0 0 0 0 0 0 0 0 0 0 false)), (6, Loc.cells 25 (R.cs ⟨(rdK ⟨bs, false⟩ i).2, 0, 0, 0, false⟩))]) H) Kr Ke
  | 0, i, H, hi, h, k => by
    obtain rfl : i = 8 := by omega
    have := k _ h
    unfold R.cs at this ⊢
    rw [lp25_4]
    exact this
  | n + 1, i, H, hi, h, k => by
    have e1 : decide ((i : Int) < 8) = true := by simp; omega
    have e2 : decide (0 ≤ (i : Int)) = true := by simp
    have e3 : 0 + Int.toNat (i : Int) * 1 = i := by simp
    have hm := num_le (rdK ⟨bs, false⟩ i).1 4 4294967295
    unfold R.cs
    rw [lp25_4, wrap_succ (by omega), e1, br_true]
    refine sp_Num h 4 4294967295 (by omega) (fun H' h' => ?_)
    rw [getInt_int, wrap_u32_nat (by omega)]
    have hst := set_key_ok (((rdK ⟨bs, false⟩ i).1.num 4 4294967295).1 : Nat) 0 0 false (show i < 8 by omega)
    have hsk := set_key ⟨(rdK ⟨bs, false⟩ i).2, 0, 0, 0, false⟩ (show i < 8 by omega) (((rdK ⟨bs, false⟩ i).1.num 4 4294967295).1 : Nat) 0 0 0 false
    simp only [e1, e2, e3, hst, hsk, isK_int, br_true, req_true, Bool.and_self]
    exact lp_Decode n (i + 1) (by omega) h' k

def decV : Option (R × Nat) → V
  | some (r, n) => .tuple [.agg r.cs, .int .i64 (n : Int), .int .i64 0]
  | none => .tuple [.agg (c24 0 0 0 0 0 0 0 0 0 0 0 false), .int .i64 0, .int .i64 3]

theorem sp_Decode (h : Sat B H L) (hr : Rds B L q bs) (hc : bs.length ≤ cap) (k : ∀ H', Sat B H' L → K (decV (decD bs)) H') :
    Am.Rec.call (Am.Run env) 25 [.slice q bs.length cap] H K := by
  rw [eq25]
  refine sp_Read h hr hc (fun id H1 h1 => ?_)
  simp only [joinP_eq, br_true, br_false, req_true, look_cons, look_nil, reduceIte, reduceCtorEq, T_val_v, isKT_k, isKT_agg, isKT_lp, isLK_c, locCells_c, nthV_zero, nthV_one, nthV_two, vals_tuple, aggCells_agg, isAgg_agg, getInt_int, getBool_bool, getStr_str, getPtr_ptr, slPtr_slice, slLen_slice, slCap_slice, isK_int, isK_bool, isK_str, isK_ptr, isK_slice, isTuple_tuple, List.length_cons, List.length_nil, Bool.and_true, Bool.true_and, Bool.or_false, Bool.false_or, Bool.and_self, decide_true, decide_false, Bool.not_true, Bool.not_false, beq_dec, ble_dec, Nat.reduceAdd, Nat.reduceEqDiff, Nat.reduceEqDiff]
  refine lp_Decode (bs := bs) 8 0 (by omega) h1 (fun H2 h2 => ?_)
  have hk' : ∀ H', Sat B H' L → K (decV (decP bs)) H' := fun H' h' => by rw [dec_eq]; exact k H' h'
  unfold decP dec5 at hk'
  generalize rdK ⟨bs, false⟩ 8 = s at h2 hk' ⊢
  obtain ⟨s, ks⟩ := s
  unfold R.cs
  simp only [joinP_eq, br_true, br_false, req_true, look_cons, look_nil, reduceIte, reduceCtorEq, T_val_v, isKT_k, isKT_agg, isKT_lp, isLK_c, locCells_c, nthV_zero, nthV_one, nthV_two, vals_tuple, aggCells_agg, isAgg_agg, getInt_int, getBool_bool, getStr_str, getPtr_ptr, slPtr_slice, slLen_slice, slCap_slice, isK_int, isK_bool, isK_str, isK_ptr, isK_slice, isTuple_tuple, List.length_cons, List.length_nil, Bool.and_true, Bool.true_and, Bool.or_false, Bool.false_or, Bool.and_self, decide_true, decide_false, Bool.not_true, Bool.not_false, beq_dec, ble_dec, Nat.reduceAdd, Nat.reduceEqDiff, Nat.reduceEqDiff, f24, oc24, n24_0, n24_1, n24_2, n24_3, n24_4, n24_5, n24_6, n24_7, n24_8, n24_9, n24_10, n24_11]
  refine sp_Num h2 1 255 (by omega) (fun H3 h3 => ?_)
  simp only [joinP_eq, br_true, br_false, req_true, look_cons, look_nil, reduceIte, reduceCtorEq, T_val_v, isKT_k, isKT_agg, isKT_lp, isLK_c, locCells_c, nthV_zero, nthV_one, nthV_two, vals_tuple, aggCells_agg, isAgg_agg, getInt_int, getBool_bool, getStr_str, getPtr_ptr, slPtr_slice, slLen_slice, slCap_slice, isK_int, isK_bool, isK_str, isK_ptr, isK_slice, isTuple_tuple, List.length_cons, List.length_nil, Bool.and_true, Bool.true_and, Bool.or_false, Bool.false_or, Bool.and_self, decide_true, decide_false, Bool.not_true, Bool.not_false, beq_dec, ble_dec, Nat.reduceAdd, Nat.reduceEqDiff, Nat.reduceEqDiff]
  refine sp_Num h3 1 8 (by omega) (fun H4 h4 => ?_)
  simp only [joinP_eq, br_true, br_false, req_true, look_cons, look_nil, reduceIte, reduceCtorEq, T_val_v, isKT_k, isKT_agg, isKT_lp, isLK_c, locCells_c, nthV_zero, nthV_one, nthV_two, vals_tuple, aggCells_agg, isAgg_agg, getInt_int, getBool_bool, getStr_str, getPtr_ptr, slPtr_slice, slLen_slice, slCap_slice, isK_int, isK_bool, isK_str, isK_ptr, isK_slice, isTuple_tuple, List.length_cons, List.length_nil, Bool.and_true, Bool.true_and, Bool.or_false, Bool.false_or, Bool.and_self, decide_true, decide_false, Bool.not_true, Bool.not_false, beq_dec, ble_dec, Nat.reduceAdd, Nat.reduceEqDiff, Nat.reduceEqDiff]
  refine sp_Num h4 4 4294967295 (by omega) (fun H5 h5 => ?_)
  simp only [joinP_eq, br_true, br_false, req_true, look_cons, look_nil, reduceIte, reduceCtorEq, T_val_v, isKT_k, isKT_agg, isKT_lp, isLK_c, locCells_c, nthV_zero, nthV_one, nthV_two, vals_tuple, aggCells_agg, isAgg_agg, getInt_int, getBool_bool, getStr_str, getPtr_ptr, slPtr_slice, slLen_slice, slCap_slice, isK_int, isK_bool, isK_str, isK_ptr, isK_slice, isTuple_tuple, List.length_cons, List.length_nil, Bool.and_true, Bool.true_and, Bool.or_false, Bool.false_or, Bool.and_self, decide_true, decide_false, Bool.not_true, Bool.not_false, beq_dec, ble_dec, Nat.reduceAdd, Nat.reduceEqDiff, Nat.reduceEqDiff]
  refine sp_Num h5 1 1 (by omega) (fun H6 h6 => ?_)
  simp only [joinP_eq, br_true, br_false, req_true, look_cons, look_nil, reduceIte, reduceCtorEq, T_val_v, isKT_k, isKT_agg, isKT_lp, isLK_c, locCells_c, nthV_zero, nthV_one, nthV_two, vals_tuple, aggCells_agg, isAgg_agg, getInt_int, getBool_bool, getStr_str, getPtr_ptr, slPtr_slice, slLen_slice, slCap_slice, isK_int, isK_bool, isK_str, isK_ptr, isK_slice, isTuple_tuple, List.length_cons, List.length_nil, Bool.and_true, Bool.true_and, Bool.or_false, Bool.false_or, Bool.and_self, decide_true, decide_false, Bool.not_true, Bool.not_false, beq_dec, ble_dec, Nat.reduceAdd, Nat.reduceEqDiff, Nat.reduceEqDiff]
  refine sp_Num h6 4 2147483647 (by omega) (fun H7 h7 => ?_)
  have m1 := num_le s 1 255
  have m2 := num_le (s.num 1 255).2 1 8
  have m3 := num_le ((s.num 1 255).2.num 1 8).2 4 4294967295
  have m4 := num_le ((((s.num 1 255).2.num 1 8).2.num 4 4294967295).2.num 1 1).2 4 2147483647
  have hd : dec5s (s, ks) = ⟨⟨ks, ((s.num 1 255).1 : Nat), (((s.num 1 255).2.num 1 8).1 : Nat) - 1, ((((s.num 1 255).2.num 1 8).2.num 4 4294967295).1 : Nat),
      decide ((((((s.num 1 255).2.num 1 8).2.num 4 4294967295).2.num 1 1).1 : Int) = 1)⟩, (((((s.num 1 255).2.num 1 8).2.num 4 4294967295).2.num 1 1).2.num 4 2147483647).1, (((((s.num 1 255).2.num 1 8).2.num 4 4294967295).2.num 1 1).2.num 4 2147483647).2⟩ := rfl
  simp only [hd] at hk'
  simp only [joinP_eq, br_true, br_false, req_true, look_cons, look_nil, reduceIte, reduceCtorEq, T_val_v, isKT_k, isKT_agg, isKT_lp, isLK_c, locCells_c, nthV_zero, nthV_one, nthV_two, vals_tuple, aggCells_agg, isAgg_agg, getInt_int, getBool_bool, getStr_str, getPtr_ptr, slPtr_slice, slLen_slice, slCap_slice, isK_int, isK_bool, isK_str, isK_ptr, isK_slice, isTuple_tuple, List.length_cons, List.length_nil, Bool.and_true, Bool.true_and, Bool.or_false, Bool.false_or, Bool.and_self, decide_true, decide_false, Bool.not_true, Bool.not_false, beq_dec, ble_dec, Nat.reduceAdd, Nat.reduceEqDiff, Nat.reduceEqDiff, sp_End h7]
  dsimp +instances only [getInt_int]
  obtain ⟨q7, c7, _, _, h7⟩ := h7.ex
  have hk := hk' H7 h7.drop
  generalize s.num 1 255 = a at m1 m2 m3 m4 hk ⊢
  generalize a.2.num 1 8 = b at m2 m3 m4 hk ⊢
  generalize b.2.num 4 4294967295 = c at m3 m4 hk ⊢
  generalize c.2.num 1 1 = d at m4 hk ⊢
  generalize d.2.num 4 2147483647 = e at m4 hk ⊢
  rw [wrap_u8_nat, wrap_i64_nat (n := b.1) (by omega), wrap_in (by omega) (by omega), wrap_u32_nat (by omega), wrap_i64_nat (by omega)]
  have e8 : ((UInt8.ofNat a.1).toNat : Int) = (a.1 : Nat) := by simp; omega
  rw [e8, R.fold' ks]
  generalize R.mk ks (a.1 : Nat) ((b.1 : Nat) - 1) (c.1 : Nat) (decide ((d.1 : Int) = 1)) = r at hk ⊢
  simp only [sp_Form]
  cases hb : e.2.bad
  · by_cases hn : e.2.bs = []
    · cases hf : formR r
      · simpa [hb, hn, hf, decV] using hk
      · simpa [hb, hn, hf, decV] using hk
    · simpa [hb, hn, decV] using hk
  · simpa [hb, decV] using hk

end
end Go.Proofs.Ytpodpakpgolipaa
