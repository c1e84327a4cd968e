/- The scripts' loops of the laws: what is registered behind them is so by Inv. -/
import Derived.Test.YtmoopebmajefkaaResvD
namespace Go.Proofs.Ytmoopebmajefkaa
open Go.Am
set_option maxRecDepth 100000
set_option linter.unusedSimpArgs false
set_option linter.unusedVariables false

section
variable {p : Option (Nat × Nat)} {n c0 : Nat} {A : Nat → Act} {Kr : St → Prop} {Ke : Nat → St → Prop}

theorem Scr.facts {H : Am.Heap} (h : Scr H p n A) {i : Nat} (hi : i < n) : Option.isSome p = true ∧
    Am.Heap.inb H (Option.getD p (0, 0)).1 ((Option.getD p (0, 0)).2 + i * 7) 7 = true ∧
    Am.Heap.sub H (Option.getD p (0, 0)).1 ((Option.getD p (0, 0)).2 + i * 7) 7 = (A i).cs ∧ (A i).ok := by
  obtain ⟨id, off, rfl, _, h3, h4, h5⟩ := h.at' i hi
  exact ⟨rfl, h3, h4, h5⟩

theorem lp_ResvPreempts (x1 x2 x3 : Int) : ∀ (m i : Nat) (r : R) (H : Am.Heap), 30 ≤ i + m → Scr H p n A → Inv r → (∀ r' H', Inv r' → Ke 0 (St.mk (Am.look [(1, T.v (V.int .u8 x1)), (2, T.v (V.int .u8 x2)), (3, T.v (V.int .u8 x3)), (9, T.lp 9 0)]) (Am.look [(9, Loc.cells 30 r'.cs)]) H')) →
    Am.Rec.loop (Am.Run env) (Am.loopAt env 5 6) 5 6 (St.mk (Am.look [(0, T.v (V.slice p n c0)), (1, T.v (V.int .u8 x1)), (2, T.v (V.int .u8 x2)), (3, T.v (V.int .u8 x3)), (9, T.lp 9 0), (10, T.v (V.int .i64 i))]) (Am.look [(9, Loc.cells 30 r.cs)]) H) Kr Ke
  | 0, i, r, H, hm, hs, hr, hk => by
    have e1 : decide ((i : Int) < 30) = false := by simp; omega
    have := hk r H hr
    unfold R.cs at this
    unfold R.cs
    rw [lp5_6]
    simp only [e1, Bool.and_false, br_false]
    exact this
  | m + 1, i, r, H, hm, hs, hr, hk => by
    have hk0 := hk r H hr
    have ih : ∀ (r' : R), Inv r' → Am.Rec.loop (Am.Run env) (Am.loopAt env 5 6) 5 6 (St.mk (Am.look [(0, T.v (V.slice p n c0)), (1, T.v (V.int .u8 x1)), (2, T.v (V.int .u8 x2)), (3, T.v (V.int .u8 x3)), (9, T.lp 9 0), (10, T.v (V.int .i64 (i + 1 : Nat)))]) (Am.look [(9, Loc.cells 30 r'.cs)]) (H.alloc tabObj)) Kr Ke :=
      fun r' hr' => lp_ResvPreempts x1 x2 x3 m (i + 1) r' (H.alloc tabObj) (by omega) (hs.alloc _) hr' hk
    by_cases hi : i < n
    · by_cases hl : i < 30
      · obtain ⟨f1, f2, f3, f4⟩ := hs.facts hi
        have e1 : decide ((i : Int) < (n : Int)) = true := by simp; omega
        have e2 : decide ((i : Int) < 30) = true := by simp; omega
        have e3 : decide (0 ≤ (i : Int)) = true := by simp
        conv => unfold R.cs
        rw [lp5_6, wrap_succ (by omega)]
        simp only [e1, e2, e3, f1, f2, f3, Int.toNat_natCast, joinP_eq, br_true, br_false, req_true, look_cons, look_nil, reduceIte, reduceCtorEq, T_val_v, isKT_k, isKT_agg, isKT_lp, isLK_c, locCells_c, nthV_zero, nthV_one, nthV_two, vals_tuple, aggCells_agg, isAgg_agg, getInt_int, getBool_bool, getStr_str, getPtr_ptr, slPtr_slice, slLen_slice, slCap_slice, isK_int, isK_bool, isK_str, isK_ptr, isK_slice, isTuple_tuple, List.length_cons, List.length_nil, Bool.and_true, Bool.true_and, Bool.or_false, Bool.false_or, Bool.and_self, decide_true, decide_false, Bool.not_true, Bool.not_false, beq_dec, ble_dec, Nat.reduceAdd, Nat.reduceEqDiff, Nat.reduceEqDiff, R.fold, Act.fits_cs, Act.open_cs, sp_command _ _ _ f4, Cm.fits_cs, Cm.open_cs, sp_Do, R.fits_cs, R.open_cs]
        exact ih _ (do_inv hr _ _)
      · have e1 : decide ((i : Int) < 30) = false := by simp; omega
        conv => unfold R.cs
        unfold R.cs at hk0
        rw [lp5_6]
        simp only [e1, Bool.and_false, br_false]
        exact hk0
    · have e1 : decide ((i : Int) < (n : Int)) = false := by simp; omega
      conv => unfold R.cs
      unfold R.cs at hk0
      rw [lp5_6]
      simp only [e1, Bool.false_and, br_false]
      exact hk0

theorem lp_ResvClears (x1 : Int) : ∀ (m i : Nat) (r : R) (H : Am.Heap), 40 ≤ i + m → Scr H p n A → Inv r → (∀ r' H', Inv r' → Ke 0 (St.mk (Am.look [(1, T.v (V.int .u8 x1)), (5, T.lp 5 0)]) (Am.look [(5, Loc.cells 30 r'.cs)]) H')) →
    Am.Rec.loop (Am.Run env) (Am.loopAt env 7 6) 7 6 (St.mk (Am.look [(0, T.v (V.slice p n c0)), (1, T.v (V.int .u8 x1)), (5, T.lp 5 0), (6, T.v (V.int .i64 i))]) (Am.look [(5, Loc.cells 30 r.cs)]) H) Kr Ke
  | 0, i, r, H, hm, hs, hr, hk => by
    have e1 : decide ((i : Int) < 40) = false := by simp; omega
    have := hk r H hr
    unfold R.cs at this
    unfold R.cs
    rw [lp7_6]
    simp only [e1, Bool.and_false, br_false]
    exact this
  | m + 1, i, r, H, hm, hs, hr, hk => by
    have hk0 := hk r H hr
    have ih : ∀ (r' : R), Inv r' → Am.Rec.loop (Am.Run env) (Am.loopAt env 7 6) 7 6 (St.mk (Am.look [(0, T.v (V.slice p n c0)), (1, T.v (V.int .u8 x1)), (5, T.lp 5 0), (6, T.v (V.int .i64 (i + 1 : Nat)))]) (Am.look [(5, Loc.cells 30 r'.cs)]) (H.alloc tabObj)) Kr Ke :=
      fun r' hr' => lp_ResvClears x1 m (i + 1) r' (H.alloc tabObj) (by omega) (hs.alloc _) hr' hk
    by_cases hi : i < n
    · by_cases hl : i < 40
      · obtain ⟨f1, f2, f3, f4⟩ := hs.facts hi
        have e1 : decide ((i : Int) < (n : Int)) = true := by simp; omega
        have e2 : decide ((i : Int) < 40) = true := by simp; omega
        have e3 : decide (0 ≤ (i : Int)) = true := by simp
        conv => unfold R.cs
        rw [lp7_6, wrap_succ (by omega)]
        simp only [e1, e2, e3, f1, f2, f3, Int.toNat_natCast, joinP_eq, br_true, br_false, req_true, look_cons, look_nil, reduceIte, reduceCtorEq, T_val_v, isKT_k, isKT_agg, isKT_lp, isLK_c, locCells_c, nthV_zero, nthV_one, nthV_two, vals_tuple, aggCells_agg, isAgg_agg, getInt_int, getBool_bool, getStr_str, getPtr_ptr, slPtr_slice, slLen_slice, slCap_slice, isK_int, isK_bool, isK_str, isK_ptr, isK_slice, isTuple_tuple, List.length_cons, List.length_nil, Bool.and_true, Bool.true_and, Bool.or_false, Bool.false_or, Bool.and_self, decide_true, decide_false, Bool.not_true, Bool.not_false, beq_dec, ble_dec, Nat.reduceAdd, Nat.reduceEqDiff, Nat.reduceEqDiff, R.fold, Act.fits_cs, Act.open_cs, sp_command _ _ _ f4, Cm.fits_cs, Cm.open_cs, sp_Do, R.fits_cs, R.open_cs]
        exact ih _ (do_inv hr _ _)
      · have e1 : decide ((i : Int) < 40) = false := by simp; omega
        conv => unfold R.cs
        unfold R.cs at hk0
        rw [lp7_6]
        simp only [e1, Bool.and_false, br_false]
        exact hk0
    · have e1 : decide ((i : Int) < (n : Int)) = false := by simp; omega
      conv => unfold R.cs
      unfold R.cs at hk0
      rw [lp7_6]
      simp only [e1, Bool.false_and, br_false]
      exact hk0

theorem lp_ResvOthers (x1 x2 x3 x4 : Int) : ∀ (m i : Nat) (r : R) (H : Am.Heap), 40 ≤ i + m → Scr H p n A → Inv r → (∀ r' H', Inv r' → Ke 0 (St.mk (Am.look [(1, T.v (V.int .u8 x1)), (2, T.v (V.int .u8 x2)), (3, T.v (V.int .u32 x3)), (4, T.v (V.int .u32 x4)), (11, T.lp 11 0)]) (Am.look [(11, Loc.cells 30 r'.cs)]) H')) →
    Am.Rec.loop (Am.Run env) (Am.loopAt env 9 6) 9 6 (St.mk (Am.look [(0, T.v (V.slice p n c0)), (1, T.v (V.int .u8 x1)), (2, T.v (V.int .u8 x2)), (3, T.v (V.int .u32 x3)), (4, T.v (V.int .u32 x4)), (11, T.lp 11 0), (12, T.v (V.int .i64 i))]) (Am.look [(11, Loc.cells 30 r.cs)]) H) Kr Ke
  | 0, i, r, H, hm, hs, hr, hk => by
    have e1 : decide ((i : Int) < 40) = false := by simp; omega
    have := hk r H hr
    unfold R.cs at this
    unfold R.cs
    rw [lp9_6]
    simp only [e1, Bool.and_false, br_false]
    exact this
  | m + 1, i, r, H, hm, hs, hr, hk => by
    have hk0 := hk r H hr
    have ih : ∀ (r' : R), Inv r' → Am.Rec.loop (Am.Run env) (Am.loopAt env 9 6) 9 6 (St.mk (Am.look [(0, T.v (V.slice p n c0)), (1, T.v (V.int .u8 x1)), (2, T.v (V.int .u8 x2)), (3, T.v (V.int .u32 x3)), (4, T.v (V.int .u32 x4)), (11, T.lp 11 0), (12, T.v (V.int .i64 (i + 1 : Nat)))]) (Am.look [(11, Loc.cells 30 r'.cs)]) (H.alloc tabObj)) Kr Ke :=
      fun r' hr' => lp_ResvOthers x1 x2 x3 x4 m (i + 1) r' (H.alloc tabObj) (by omega) (hs.alloc _) hr' hk
    by_cases hi : i < n
    · by_cases hl : i < 40
      · obtain ⟨f1, f2, f3, f4⟩ := hs.facts hi
        have e1 : decide ((i : Int) < (n : Int)) = true := by simp; omega
        have e2 : decide ((i : Int) < 40) = true := by simp; omega
        have e3 : decide (0 ≤ (i : Int)) = true := by simp
        conv => unfold R.cs
        rw [lp9_6, wrap_succ (by omega)]
        simp only [e1, e2, e3, f1, f2, f3, Int.toNat_natCast, joinP_eq, br_true, br_false, req_true, look_cons, look_nil, reduceIte, reduceCtorEq, T_val_v, isKT_k, isKT_agg, isKT_lp, isLK_c, locCells_c, nthV_zero, nthV_one, nthV_two, vals_tuple, aggCells_agg, isAgg_agg, getInt_int, getBool_bool, getStr_str, getPtr_ptr, slPtr_slice, slLen_slice, slCap_slice, isK_int, isK_bool, isK_str, isK_ptr, isK_slice, isTuple_tuple, List.length_cons, List.length_nil, Bool.and_true, Bool.true_and, Bool.or_false, Bool.false_or, Bool.and_self, decide_true, decide_false, Bool.not_true, Bool.not_false, beq_dec, ble_dec, Nat.reduceAdd, Nat.reduceEqDiff, Nat.reduceEqDiff, R.fold, Act.fits_cs, Act.open_cs, sp_command _ _ _ f4, Cm.fits_cs, Cm.open_cs, sp_Do, R.fits_cs, R.open_cs]
        exact ih _ (do_inv hr _ _)
      · have e1 : decide ((i : Int) < 40) = false := by simp; omega
        conv => unfold R.cs
        unfold R.cs at hk0
        rw [lp9_6]
        simp only [e1, Bool.and_false, br_false]
        exact hk0
    · have e1 : decide ((i : Int) < (n : Int)) = false := by simp; omega
      conv => unfold R.cs
      unfold R.cs at hk0
      rw [lp9_6]
      simp only [e1, Bool.false_and, br_false]
      exact hk0

theorem lp_ResvRaw (x1 : Int) (c : Cm) : ∀ (m i : Nat) (r : R) (H : Am.Heap), 20 ≤ i + m → Scr H p n A → Inv r → (∀ r' H', Inv r' → Ke 0 (St.mk (Am.look [(1, T.v (V.int .i64 x1)), (5, T.lp 5 0), (7, T.lp 7 0)]) (Am.look [(5, Loc.cells 26 (c25 c.kd c.lba c.dp c.dn c.dc c.su c.ky c.nw c.ty c.la)), (7, Loc.cells 30 r'.cs)]) H')) →
    Am.Rec.loop (Am.Run env) (Am.loopAt env 3 6) 3 6 (St.mk (Am.look [(0, T.v (V.slice p n c0)), (1, T.v (V.int .i64 x1)), (5, T.lp 5 0), (7, T.lp 7 0), (8, T.v (V.int .i64 i))]) (Am.look [(5, Loc.cells 26 (c25 c.kd c.lba c.dp c.dn c.dc c.su c.ky c.nw c.ty c.la)), (7, Loc.cells 30 r.cs)]) H) Kr Ke
  | 0, i, r, H, hm, hs, hr, hk => by
    have e1 : decide ((i : Int) < 20) = false := by simp; omega
    have := hk r H hr
    unfold R.cs at this
    unfold R.cs
    rw [lp3_6]
    simp only [e1, Bool.and_false, br_false]
    exact this
  | m + 1, i, r, H, hm, hs, hr, hk => by
    have hk0 := hk r H hr
    have ih : ∀ (r' : R), Inv r' → Am.Rec.loop (Am.Run env) (Am.loopAt env 3 6) 3 6 (St.mk (Am.look [(0, T.v (V.slice p n c0)), (1, T.v (V.int .i64 x1)), (5, T.lp 5 0), (7, T.lp 7 0), (8, T.v (V.int .i64 (i + 1 : Nat)))]) (Am.look [(5, Loc.cells 26 (c25 c.kd c.lba c.dp c.dn c.dc c.su c.ky c.nw c.ty c.la)), (7, Loc.cells 30 r'.cs)]) (H.alloc tabObj)) Kr Ke :=
      fun r' hr' => lp_ResvRaw x1 c m (i + 1) r' (H.alloc tabObj) (by omega) (hs.alloc _) hr' hk
    by_cases hi : i < n
    · by_cases hl : i < 20
      · obtain ⟨f1, f2, f3, f4⟩ := hs.facts hi
        have e1 : decide ((i : Int) < (n : Int)) = true := by simp; omega
        have e2 : decide ((i : Int) < 20) = true := by simp; omega
        have e3 : decide (0 ≤ (i : Int)) = true := by simp
        conv => unfold R.cs
        rw [lp3_6, wrap_succ (by omega)]
        simp only [e1, e2, e3, f1, f2, f3, Int.toNat_natCast, joinP_eq, br_true, br_false, req_true, look_cons, look_nil, reduceIte, reduceCtorEq, T_val_v, isKT_k, isKT_agg, isKT_lp, isLK_c, locCells_c, nthV_zero, nthV_one, nthV_two, vals_tuple, aggCells_agg, isAgg_agg, getInt_int, getBool_bool, getStr_str, getPtr_ptr, slPtr_slice, slLen_slice, slCap_slice, isK_int, isK_bool, isK_str, isK_ptr, isK_slice, isTuple_tuple, List.length_cons, List.length_nil, Bool.and_true, Bool.true_and, Bool.or_false, Bool.false_or, Bool.and_self, decide_true, decide_false, Bool.not_true, Bool.not_false, beq_dec, ble_dec, Nat.reduceAdd, Nat.reduceEqDiff, Nat.reduceEqDiff, R.fold, Act.fits_cs, Act.open_cs, sp_command _ _ _ f4, Cm.fits_cs, Cm.open_cs, sp_Do, R.fits_cs, R.open_cs]
        exact ih _ (do_inv hr _ _)
      · have e1 : decide ((i : Int) < 20) = false := by simp; omega
        conv => unfold R.cs
        unfold R.cs at hk0
        rw [lp3_6]
        simp only [e1, Bool.and_false, br_false]
        exact hk0
    · have e1 : decide ((i : Int) < (n : Int)) = false := by simp; omega
      conv => unfold R.cs
      unfold R.cs at hk0
      rw [lp3_6]
      simp only [e1, Bool.false_and, br_false]
      exact hk0

end
end Go.Proofs.Ytmoopebmajefkaa
