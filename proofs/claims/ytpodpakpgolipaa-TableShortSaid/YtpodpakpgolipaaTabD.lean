/- The document's reading of a table; states near to any. -/
import Derived.Test.YtpodpakpgolipaaTabC
namespace Go.Proofs.Ytpodpakpgolipaa
open Go.Am
set_option maxRecDepth 100000
set_option linter.unusedSimpArgs false
set_option linter.unusedVariables false
set_option linter.unusedSectionVars false

def kP (bs : List UInt8) (n : Nat) : Nat → Int := fun i => if i < n then ((unle ((bs.drop (4 * i)).take 4) : Nat) : Int) else 0

theorem upd_kP (bs : List UInt8) (n : Nat) : upd (kP bs n) n ((unle ((bs.drop (4 * n)).take 4) : Nat) : Int) = kP bs (n + 1) := by
  funext i
  simp only [upd, kP]
  by_cases h1 : i = n
  · subst h1; simp
  · by_cases h2 : i < n
    · have : i < n + 1 := by omega
      simp [h1, h2, this]
    · have : ¬ i < n + 1 := by omega
      simp [h1, h2, this]

section
variable {B : Am.Heap} {L : List Ast} {H : Am.Heap} {K : V → Am.Heap → Prop} {q : Option (Nat × Nat)} {cap : Nat} {bs : List UInt8}

theorem lp_rDecode (hr : RdB H q bs) (hl : bs.length = 43) (hc : bs.length ≤ cap) {Kr : Am.St → Prop} {Ke : Nat → Am.St → Prop} : ∀ (n i : Nat), i + n = 8 →
    Am.Rec.loop (Am.Run env) (Am.loopAt env 27 6) 27 6
      (St.mk (Am.look [(0, T.v (V.slice q bs.length cap)), (2, T.lp 2 0), (5, T.lp 5 0), (6, T.v (V.int .i64 (i : Int)))])
        (Am.look [(2, Loc.cells 25 (c24 0 0 0 0 0 0 0 0 0 0 0 false)), (5, Loc.cells 25 (R.cs ⟨kP bs i, 0, 0, 0, false⟩))]) H) Kr Ke =
    Ke 0 (St.mk (Am.look [(0, T.v (V.slice q bs.length cap)), (2, T.lp 2 0), (5, T.lp 5 0)])
        (Am.look [(2, Loc.cells 25 (c24 0 0 0 0 0 0 0 0 0 0 0 false)), (5, Loc.cells 25 (R.cs ⟨kP bs 8, 0, 0, 0, false⟩))]) H)
  | 0, i, hi => by
    obtain rfl : i = 8 := by omega
    unfold R.cs
    rw [lp27_6]
    rfl
  | n + 1, i, hi => by
    have e1 : decide ((i : Int) < 8) = true := by simp; omega
    have e2 : decide (0 ≤ (i : Int)) = true := by simp
    have e3 : 0 + Int.toNat (i : Int) * 1 = i := by simp
    have e4 : IntKind.i64.wrap (4 * (i : Int)) = ((4 * i : Nat) : Int) := by rw [wrap_in (by omega) (by omega)]; omega
    have e5 : IntKind.i64.wrap (((4 * i : Nat) : Int) + 4) = ((4 * i + 4 : Nat) : Int) := by rw [wrap_in (by omega) (by omega)]; omega
    have e6 : decide (0 ≤ ((4 * i + 4 : Nat) : Int)) = true := by simp; omega
    have e7 : decide (((4 * i + 4 : Nat) : Int) ≤ (cap : Int)) = true := by simp; omega
    have e8 : decide (0 ≤ ((4 * i : Nat) : Int)) = true := by simp; omega
    have e9 : decide (((4 * i : Nat) : Int) ≤ ((4 * i + 4 : Nat) : Int)) = true := by simp; omega
    have e10 : Nat.ble (4 * i + 4) cap = true := by simp; omega
    have hp := hr.part (4 * i) 4 (by omega)
    have hpl : ((bs.drop (4 * i)).take 4).length = 4 := by simp; omega
    have hg := fun c K => sp_rGet (K := K) (cap := c) hp (by omega)
    rw [hpl] at hg
    have e11 : 4 * i + 4 - 4 * i = 4 := by omega
    conv => lhs; unfold R.cs
    rw [lp27_6, wrap_succ (by omega), e1, br_true, e4, e5]
    simp only [Int.toNat_natCast, e6, e7, e8, e9, e10, e11, Nat.mul_one, Bool.and_self, req_true, hg]
    have hm := unle4 (bs.drop (4 * i))
    simp only [isK_int, getInt_int, req_true]
    rw [wrap_u32_nat (by omega)]
    have hst := set_key_ok ((unle ((bs.drop (4 * i)).take 4) : Nat) : Int) 0 0 false (show i < 8 by omega)
    have hsk := set_key ⟨kP bs i, 0, 0, 0, false⟩ (show i < 8 by omega) ((unle ((bs.drop (4 * i)).take 4) : Nat) : Int) 0 0 0 false
    have e3' : 0 + i = i := Nat.zero_add i
    simp only [e1, e2, e3', hst, hsk, isK_int, br_true, req_true, Bool.and_self, upd_kP]
    exact lp_rDecode hr hl hc n (i + 1) (by omega)

def decVD : Option (R × Nat) → V
  | some (r, n) => .tuple [.agg r.cs, .int .i64 (n : Int), .bool true]
  | none => .tuple [.agg (c24 0 0 0 0 0 0 0 0 0 0 0 false), .int .i64 0, .bool false]

theorem RdB.atD (hr : RdB H q bs) {i : Nat} (hi : i < bs.length) :
    q.isSome = true ∧ H.inb (q.getD (0, 0)).1 ((q.getD (0, 0)).2 + i) 1 = true ∧ H.cell (q.getD (0, 0)).1 ((q.getD (0, 0)).2 + i) = .int .u8 ((bs.getD i 0).toNat : Int) := by
  have h := hr.at hi
  rw [show bs.getD i 0 = bs[i] by simp [List.getD, hi]]
  exact h

theorem sp_rDecode (hr : RdB H q bs) (hc : bs.length ≤ cap) : Am.Rec.call (Am.Run env) 27 [.slice q bs.length cap] H K = K (decVD (decD bs)) H := by
  rw [eq27]
  unfold decD goodL
  by_cases hl : bs.length = 43
  · obtain ⟨a1, a2, a3⟩ := RdB.atD hr (i := 33) (by omega)
    obtain ⟨_, b2, b3⟩ := RdB.atD hr (i := 38) (by omega)
    obtain ⟨_, c2, c3⟩ := RdB.atD hr (i := 42) (by omega)
    obtain ⟨_, d2, d3⟩ := RdB.atD hr (i := 32) (by omega)
    have hloop : ∀ Kr Ke, Am.Rec.loop (Am.Run env) (Am.loopAt env 27 6) 27 6
      (St.mk (Am.look [(0, T.v (V.slice q bs.length cap)), (2, T.lp 2 0), (5, T.lp 5 0), (6, T.v (V.int .i64 0))])
        (Am.look [(2, Loc.cells 25 (c24 0 0 0 0 0 0 0 0 0 0 0 false)), (5, Loc.cells 25 (c24 0 0 0 0 0 0 0 0 0 0 0 false))]) H) Kr Ke = _ := fun Kr Ke => lp_rDecode (Kr := Kr) (Ke := Ke) hr hl hc 8 0 (by omega)
    have g34 := fun c K => sp_rGet (K := K) (cap := c) (hr.part 34 4 (by omega)) (by simp; omega)
    have g39 := fun c K => sp_rGet (K := K) (cap := c) (hr.part 39 4 (by omega)) (by simp; omega)
    have l34 : ((bs.drop 34).take 4).length = 4 := by simp; omega
    have l39 : ((bs.drop 39).take 4).length = 4 := by simp; omega
    rw [l34] at g34
    rw [l39] at g39
    have hl' : ((bs.length : Nat) : Int) = 43 := by omega
    have x1 : (38 : Int) ≤ (cap : Int) := by omega
    have x2 : (43 : Int) ≤ (cap : Int) := by omega
    have x3 : 38 ≤ cap := by omega
    have x4 : 43 ≤ cap := by omega
    have y33 := (bs.getD 33 0).toNat_lt
    have m34 := unle4 (bs.drop 34)
    have m39 := unle4 (bs.drop 39)
    have w1 : IntKind.i64.wrap (IntKind.i64.wrap ((bs.getD 33 0).toNat : Int) - 1) = ((bs.getD 33 0).toNat : Int) - 1 := by
      rw [wrap_i64_nat (by omega), wrap_in (by omega) (by omega)]
    have w2 := wrap_u32_nat (n := unle ((bs.drop 34).take 4)) (by omega)
    have w3 := wrap_i64_nat (n := unle ((bs.drop 39).take 4)) (by omega)
    have hfold : c24 (kP bs 8 0) (kP bs 8 1) (kP bs 8 2) (kP bs 8 3) (kP bs 8 4) (kP bs 8 5) (kP bs 8 6) (kP bs 8 7) ((bs.getD 32 0).toNat : Int) (((bs.getD 33 0).toNat : Int) - 1)
        ((unle ((bs.drop 34).take 4) : Nat) : Int) (decide (((bs.getD 38 0).toNat : Int) = 1)) = (parseR bs).cs := rfl
    rw [a3, b3, c3, a2, b2, c2, a1, hl']
    simp only [hloop]
    unfold R.cs
    simp only [joinP_eq, br_true, br_false, req_true, look_cons, look_nil, reduceIte, reduceCtorEq, T_val_v, isKT_k, isKT_agg, isKT_lp, isLK_c, locCells_c, nthV_zero, nthV_one, nthV_two, vals_tuple, aggCells_agg, isAgg_agg, getInt_int, getBool_bool, getStr_str, getPtr_ptr, slPtr_slice, slLen_slice, slCap_slice, isK_int, isK_bool, isK_str, isK_ptr, isK_slice, isTuple_tuple, List.length_cons, List.length_nil, Bool.and_true, Bool.true_and, Bool.or_false, Bool.false_or, Bool.and_self, decide_true, decide_false, Bool.not_true, Bool.not_false, beq_dec, ble_dec, Nat.reduceAdd, Nat.reduceEqDiff, Nat.reduceEqDiff, f24, oc24, n24_0, n24_1, n24_2, n24_3, n24_4, n24_5, n24_6, n24_7, n24_8, n24_9, n24_10, n24_11, a1, a2, a3, b2, b3, c2, c3, d2, d3, mergeR_ite, Option.isSome_some, ite_self, g34, g39, w1, w2, w3, hl', x1, x2, x3, x4]
    dsimp +instances only [getInt_int]
    simp only [hfold, sp_rForm, ← form_eq, g39, w3, joinP_eq, br_true, br_false, req_true, look_cons, look_nil, reduceIte, reduceCtorEq, T_val_v, isKT_k, isKT_agg, isKT_lp, isLK_c, locCells_c, nthV_zero, nthV_one, nthV_two, vals_tuple, aggCells_agg, isAgg_agg, getInt_int, getBool_bool, getStr_str, getPtr_ptr, slPtr_slice, slLen_slice, slCap_slice, isK_int, isK_bool, isK_str, isK_ptr, isK_slice, isTuple_tuple, List.length_cons, List.length_nil, Bool.and_true, Bool.true_and, Bool.or_false, Bool.false_or, Bool.and_self, decide_true, decide_false, Bool.not_true, Bool.not_false, beq_dec, ble_dec, Nat.reduceAdd, Nat.reduceEqDiff, Nat.reduceEqDiff]
    generalize parseR bs = r
    generalize (bs.getD 33 0).toNat = b33
    generalize (bs.getD 38 0).toNat = b38
    generalize (bs.getD 42 0).toNat = b42
    by_cases h33 : b33 ≤ 8
    · have h33' : ¬ (b33 : Int) > 8 := by omega
      by_cases h38 : b38 ≤ 1
      · have h38' : ¬ (b38 : Int) > 1 := by omega
        by_cases h42 : b42 ≤ 127
        · have h42' : ¬ (b42 : Int) > 127 := by omega
          cases hf : formR r <;> simp [hl, h33, h33', h38, h38', h42, h42', hf, decVD] <;> exact Iff.rfl
        · have h42' : (b42 : Int) > 127 := by omega
          simp [hl, h33, h33', h38, h38', h42, h42', decVD] <;> exact Iff.rfl
      · have h38' : (b38 : Int) > 1 := by omega
        simp [hl, h33, h33', h38, h38', decVD] <;> exact Iff.rfl
    · have h33' : (b33 : Int) > 8 := by omega
      simp [hl, h33, h33', decVD] <;> exact Iff.rfl
  · have hl' : ¬ ((bs.length : Nat) : Int) = 43 := by omega
    simp [hl, hl', mergeR_ite, decVD]

/-- A state with the form, near to one that is any. -/
def nearR (r : R) : R :=
  if formR r = true then r else
  if r.ty % 2 = 0 then ⟨r.k, 0, -1, r.ge, r.la⟩ else
  let t : Int := if (r.ty / 2) % 6 = 0 then 1 else if (r.ty / 2) % 6 = 1 then 3 else if (r.ty / 2) % 6 = 2 then 5 else if (r.ty / 2) % 6 = 3 then 6 else if (r.ty / 2) % 6 = 4 then 7 else 8
  let k : Nat → Int := if r.k (r.ge % 8).toNat = 0 then upd r.k (r.ge % 8).toNat 1 else r.k
  ⟨k, t, if t < 7 then r.ge % 8 else -1, r.ge, r.la⟩

theorem sp_near (r : R) (ht : 0 ≤ r.ty ∧ r.ty ≤ 255) (hg : 0 ≤ r.ge ∧ r.ge ≤ 4294967295) (h : Sat B H L) (k : ∀ H', Sat B H' L → K (.agg (nearR r).cs) H') :
    Am.Rec.call (Am.Run env) 16 [.agg r.cs] H K := by
  unfold R.cs
  rw [eq16]
  simp only [R.fold]
  simp only [sp_rForm, ← form_eq]
  unfold nearR at k
  cases hf : formR r
  · simp only [hf, Bool.false_eq_true, if_false] at k
    simp only [isK_bool, getBool_bool, req_true, br_false]
    have m1 : Int.tmod r.ty 2 = r.ty % 2 := Int.tmod_eq_emod_of_nonneg ht.1
    have m2 : IntKind.i64.wrap (IntKind.u8.wrap (Int.tdiv r.ty 2)) = r.ty / 2 := by
      rw [Int.tdiv_eq_ediv_of_nonneg ht.1, IntWalk.u8_in _ (by omega), wrap_in (by omega) (by omega)]
    have m3 : Int.tmod (r.ty / 2) 6 = (r.ty / 2) % 6 := Int.tmod_eq_emod_of_nonneg (by omega)
    have m4 : IntKind.i64.wrap (Int.tmod r.ge 8) = r.ge % 8 := by
      rw [Int.tmod_eq_emod_of_nonneg hg.1, wrap_in (by omega) (by omega)]
    have hal := h.alloc 5 (c85 1 3 5 6 7 8)
    rw [m1, m2, m3, m4]
    by_cases hp : r.ty % 2 = 0
    · rw [if_pos hp] at k
      rw [decide_eq_true hp, br_true]
      exact k _ hal.drop
    · rw [if_neg hp] at k
      rw [decide_eq_false hp, br_false]
      have hg1 := hal.get
      have g8 : (r.ge % 8).toNat < 8 := by omega
      have e1 : decide (0 ≤ r.ty / 2 % 6) = true := by simp; omega
      have e2 : decide (r.ty / 2 % 6 < 6) = true := by simp; omega
      have e3 : decide (0 ≤ r.ge % 8) = true := by simp; omega
      have e4 : decide (r.ge % 8 < 8) = true := by simp; omega
      have e5 : Nat.ble (0 + (r.ty / 2 % 6).toNat * 1 + 1) (c85 1 3 5 6 7 8).length = true := by
        have : (c85 1 3 5 6 7 8).length = 6 := rfl
        rw [this]; simp; omega
      have e6 : 0 + (r.ge % 8).toNat * 1 = (r.ge % 8).toNat := by omega
      have e8 : ∃ t : Int, nthV (c85 1 3 5 6 7 8) (0 + (r.ty / 2 % 6).toNat * 1) = .int .u8 t ∧ t = (if (r.ty / 2) % 6 = 0 then 1 else if (r.ty / 2) % 6 = 1 then 3 else if (r.ty / 2) % 6 = 2 then 5 else if (r.ty / 2) % 6 = 3 then 6 else if (r.ty / 2) % 6 = 4 then 7 else 8 : Int) := by
        have : r.ty / 2 % 6 = 0 ∨ r.ty / 2 % 6 = 1 ∨ r.ty / 2 % 6 = 2 ∨ r.ty / 2 % 6 = 3 ∨ r.ty / 2 % 6 = 4 ∨ r.ty / 2 % 6 = 5 := by omega
        rcases this with h | h | h | h | h | h <;> rw [h] <;> exact ⟨_, rfl, rfl⟩
      obtain ⟨t, e8, e9⟩ := e8
      simp only [← e9] at k
      have hk1 := nth_key ⟨r.k, t, -1, r.ge, r.la⟩ g8
      have hst := set_key_ok 1 t (-1) r.la g8
      have hsk := set_key ⟨r.k, t, -1, r.ge, r.la⟩ g8 1 t (-1) r.ge r.la
      have e10 : Nat.ble (Nat.succ (r.ge % 8).toNat) 12 = true := by simp; omega
      simp only [inb_get hg1, cell_get hg1, e1, e2, e3, e4, e5, e8, hk1, hst, hsk, e6, isK_int, getInt_int, Bool.or_false, Bool.and_self, req_true, Option.getD_some]
      simp only [e10, Bool.and_self, req_true]
      have hk := k _ hal.drop
      have e11 : ∀ k0 : Nat → Int, (St.mk (Am.look []) (Am.look [(1, Loc.cells 25 (R.cs ⟨k0, t, -1, r.ge, r.la⟩))]) (H.alloc (.cells 5 (c85 1 3 5 6 7 8) false))).2 1 = some (Loc.cells 25 (R.cs ⟨k0, t, -1, r.ge, r.la⟩)) := fun _ => rfl
      by_cases hz : r.k (r.ge % 8).toNat = 0
      · simp only [hz, decide_true, br_true]
        simp only [hz, if_true] at hk
        unfold R.cs
        simp only [joinP_eq, br_true, br_false, req_true, look_cons, look_nil, reduceIte, reduceCtorEq, T_val_v, isKT_k, isKT_agg, isKT_lp, isLK_c, locCells_c, nthV_zero, nthV_one, nthV_two, vals_tuple, aggCells_agg, isAgg_agg, getInt_int, getBool_bool, getStr_str, getPtr_ptr, slPtr_slice, slLen_slice, slCap_slice, isK_int, isK_bool, isK_str, isK_ptr, isK_slice, isTuple_tuple, List.length_cons, List.length_nil, Bool.and_true, Bool.true_and, Bool.or_false, Bool.false_or, Bool.and_self, decide_true, decide_false, Bool.not_true, Bool.not_false, beq_dec, ble_dec, Nat.reduceAdd, Nat.reduceEqDiff, Nat.reduceEqDiff, f24, oc24, n24_0, n24_1, n24_2, n24_3, n24_4, n24_5, n24_6, n24_7, n24_8, n24_9, n24_10, n24_11]
        try dsimp +instances only [getInt_int]
        by_cases h7 : t < 7
        · simpa [h7, R.cs] using hk
        · simpa [h7, R.cs] using hk
      · simp only [hz, decide_false, br_false]
        simp only [hz, if_false] at hk
        simp only [joinP_eq, br_true, br_false, req_true, look_cons, look_nil, reduceIte, reduceCtorEq, T_val_v, isKT_k, isKT_agg, isKT_lp, isLK_c, locCells_c, nthV_zero, nthV_one, nthV_two, vals_tuple, aggCells_agg, isAgg_agg, getInt_int, getBool_bool, getStr_str, getPtr_ptr, slPtr_slice, slLen_slice, slCap_slice, isK_int, isK_bool, isK_str, isK_ptr, isK_slice, isTuple_tuple, List.length_cons, List.length_nil, Bool.and_true, Bool.true_and, Bool.or_false, Bool.false_or, Bool.and_self, decide_true, decide_false, Bool.not_true, Bool.not_false, beq_dec, ble_dec, Nat.reduceAdd, Nat.reduceEqDiff, Nat.reduceEqDiff, f24, oc24, n24_0, n24_1, n24_2, n24_3, n24_4, n24_5, n24_6, n24_7, n24_8, n24_9, n24_10, n24_11]
        try dsimp +instances only [getInt_int]
        by_cases h7 : t < 7
        · simpa [h7, R.cs] using hk
        · simpa [h7, R.cs] using hk
  · simp only [hf, if_true] at k
    simp only [joinP_eq, br_true, br_false, req_true, look_cons, look_nil, reduceIte, reduceCtorEq, T_val_v, isKT_k, isKT_agg, isKT_lp, isLK_c, locCells_c, nthV_zero, nthV_one, nthV_two, vals_tuple, aggCells_agg, isAgg_agg, getInt_int, getBool_bool, getStr_str, getPtr_ptr, slPtr_slice, slLen_slice, slCap_slice, isK_int, isK_bool, isK_str, isK_ptr, isK_slice, isTuple_tuple, List.length_cons, List.length_nil, Bool.and_true, Bool.true_and, Bool.or_false, Bool.false_or, Bool.and_self, decide_true, decide_false, Bool.not_true, Bool.not_false, beq_dec, ble_dec, Nat.reduceAdd, Nat.reduceEqDiff, Nat.reduceEqDiff]
    exact k _ h

theorem near_form (r : R) (hr : ∀ i, 0 ≤ r.k i ∧ r.k i ≤ 4294967295) (ht : 0 ≤ r.ty ∧ r.ty ≤ 255) (hg : 0 ≤ r.ge ∧ r.ge ≤ 4294967295) : formR (nearR r) = true ∧ (nearR r).ok := by
  have key : ∀ r : R, (∀ i, 0 ≤ r.k i ∧ r.k i ≤ 4294967295) → (0 ≤ r.ty ∧ r.ty ≤ 255) → (0 ≤ r.ge ∧ r.ge ≤ 4294967295) → formR r = true → r.ok := by
    intro r h1 h2 h3 h4
    refine ⟨h1, h2, ?_, h3⟩
    unfold formR at h4
    simp at h4
    omega
  unfold nearR
  by_cases hf : formR r = true
  · rw [if_pos hf]
    exact ⟨hf, key r hr ht hg hf⟩
  · rw [if_neg hf]
    by_cases hp : r.ty % 2 = 0
    · rw [if_pos hp]
      have : formR ⟨r.k, 0, -1, r.ge, r.la⟩ = true := by simp [formR, oneR]
      exact ⟨this, key _ hr ⟨by simp, by simp⟩ hg this⟩
    · rw [if_neg hp]
      simp only []
      have g8 : (r.ge % 8).toNat < 8 := by omega
      have hk : ∀ i, 0 ≤ (if r.k (r.ge % 8).toNat = 0 then upd r.k (r.ge % 8).toNat 1 else r.k) i ∧ (if r.k (r.ge % 8).toNat = 0 then upd r.k (r.ge % 8).toNat 1 else r.k) i ≤ 4294967295 := by
        intro i
        split
        · unfold upd
          split
          · omega
          · exact hr i
        · exact hr i
      have hne : (if r.k (r.ge % 8).toNat = 0 then upd r.k (r.ge % 8).toNat 1 else r.k) (r.ge % 8).toNat ≠ 0 := by
        split
        · rw [upd_eq]; omega
        · assumption
      generalize (if r.k (r.ge % 8).toNat = 0 then upd r.k (r.ge % 8).toNat 1 else r.k) = k at hk hne
      have hs : someB k 8 = true := someB_iff.2 ⟨_, g8, hne⟩
      have g9 : ¬ r.ge % 8 < -1 := by omega
      have g10 : ¬ r.ge % 8 ≥ 8 := by omega
      have g11 : r.ge % 8 ≥ 0 := by omega
      have fin : ∀ t : Int, (t = 1 ∨ t = 3 ∨ t = 5 ∨ t = 6 ∨ t = 7 ∨ t = 8) → formR ⟨k, t, if t < 7 then r.ge % 8 else -1, r.ge, r.la⟩ = true ∧ R.ok ⟨k, t, if t < 7 then r.ge % 8 else -1, r.ge, r.la⟩ := by
        intro t htt
        have : formR ⟨k, t, if t < 7 then r.ge % 8 else -1, r.ge, r.la⟩ = true := by
          rcases htt with rfl | rfl | rfl | rfl | rfl | rfl <;> simp [formR, oneR, all8, right, hs, hne, g9, g10, g11] <;> omega
        exact ⟨this, key _ hk (by simp only []; omega) hg this⟩
      apply fin
      repeat' split
      all_goals omega

end
end Go.Proofs.Ytpodpakpgolipaa
