/- The laws of reservations, of what the code comes to. -/
import Derived.Test.YtmoopebmajefkaaResvLoops
import Derived.Test.YtmoopebmajefkaaResvIn
namespace Go.Proofs.Ytmoopebmajefkaa
open Go.Am
set_option maxRecDepth 100000
set_option linter.unusedSimpArgs false
set_option linter.unusedVariables false

theorem R.at0 (r : R) : nthV r.cs 0 = .int .u32 (r.k 0) := rfl
theorem R.at1 (r : R) : nthV r.cs 1 = .int .u32 (r.k 1) := rfl
theorem R.at2 (r : R) : nthV r.cs 2 = .int .u32 (r.k 2) := rfl
theorem R.at3 (r : R) : nthV r.cs 3 = .int .u32 (r.k 3) := rfl
theorem R.at4 (r : R) : nthV r.cs 4 = .int .u32 (r.k 4) := rfl
theorem R.at5 (r : R) : nthV r.cs 5 = .int .u32 (r.k 5) := rfl
theorem R.at6 (r : R) : nthV r.cs 6 = .int .u32 (r.k 6) := rfl
theorem R.at7 (r : R) : nthV r.cs 7 = .int .u32 (r.k 7) := rfl
theorem R.at8 (r : R) : nthV r.cs 8 = .int .u8 r.ty := rfl
theorem R.at9 (r : R) : nthV r.cs 9 = .int .i64 r.ho := rfl
theorem R.at10 (r : R) : nthV r.cs 10 = .int .u32 r.ge := rfl
theorem R.at11 (r : R) : nthV r.cs 11 = .bool r.la := rfl
theorem br_of_false {c : Bool} {X Y : Prop} (h : c = false) (y : Y) : br c X Y := by rw [h]; exact y
theorem br_of_true {c : Bool} {X Y : Prop} (h : c = true) (x : X) : br c X Y := by rw [h]; exact x
theorem Cm.at0 (c : Cm) : nthV c.cs 0 = .int .u8 c.kd := rfl

section
variable (H : Am.Heap) (K : V → Am.Heap → Prop)

theorem sp_awake : Am.Rec.call (Am.Run env) 10 [] H K = K (.bool true) H := by
  rw [eq10]
  simp only [joinP_eq, br_true, br_false, req_true, look_cons, look_nil, reduceIte, reduceCtorEq, T_val_v, isKT_k, isKT_agg, isKT_lp, isLK_c, locCells_c, nthV_zero, nthV_one, nthV_two, vals_tuple, aggCells_agg, isAgg_agg, getInt_int, getBool_bool, getStr_str, getPtr_ptr, slPtr_slice, slLen_slice, slCap_slice, isK_int, isK_bool, isK_str, isK_ptr, isK_slice, isTuple_tuple, List.length_cons, List.length_nil, Bool.and_true, Bool.true_and, Bool.or_false, Bool.false_or, Bool.and_self, decide_true, decide_false, Bool.not_true, Bool.not_false, beq_dec, ble_dec, Nat.reduceAdd, Nat.reduceEqDiff, Nat.reduceEqDiff, sp_None, Cm.fold', sp_Do, sp_Permits, R.fits_cs, R.open_cs]
  kernel_rfl

theorem law_ResvTable (x0 : Int) (x1 : Bool) (h0 : 0 ≤ x0) (h1 : x0 ≤ 255) : Am.Rec.call (Am.Run env) 8 [.int .u8 x0, .bool x1] H fun v _ => v = .bool true := by
  rw [eq8, wrap_in (by omega) (by omega)]
  simp only [joinP_eq, br_true, br_false, req_true, look_cons, look_nil, reduceIte, reduceCtorEq, T_val_v, isKT_k, isKT_agg, isKT_lp, isLK_c, locCells_c, nthV_zero, nthV_one, nthV_two, vals_tuple, aggCells_agg, isAgg_agg, getInt_int, getBool_bool, getStr_str, getPtr_ptr, slPtr_slice, slLen_slice, slCap_slice, isK_int, isK_bool, isK_str, isK_ptr, isK_slice, isTuple_tuple, List.length_cons, List.length_nil, Bool.and_true, Bool.true_and, Bool.or_false, Bool.false_or, Bool.and_self, decide_true, decide_false, Bool.not_true, Bool.not_false, beq_dec, ble_dec, Nat.reduceAdd, Nat.reduceEqDiff, Nat.reduceEqDiff, sp_awake, sp_Types, sp_None, Cm.fold', sp_Do, sp_Permits, sp_rPermits, R.fits_cs, R.open_cs]
  have ht : Int.tmod x0 6 = 0 ∨ Int.tmod x0 6 = 1 ∨ Int.tmod x0 6 = 2 ∨ Int.tmod x0 6 = 3 ∨ Int.tmod x0 6 = 4 ∨ Int.tmod x0 6 = 5 := by
    have := Int.tmod_eq_emod_of_nonneg (a := x0) (b := 6) h0
    omega
  rcases ht with h | h | h | h | h | h <;> rw [h] <;> cases x1 <;> exact Eq.mpr (by kernel_rfl : _ = (V.bool true = V.bool true)) rfl

theorem do_other {r : R} {h : Int} {c : Cm} (h0 : 0 ≤ h) (h8 : h < 8) (hk : 4 ≤ c.kd ∧ c.kd ≤ 8) (ht : right c.ty = true) (hn : c.ky ≠ r.k h.toNat) : doR r h c = (r, 13) := by
  unfold doR key
  grind

theorem law_ResvOthers (q : Option (Nat × Nat)) (len cap : Nat) (x1 x2 x3 x4 : Int) (hs : SlTy env.P H 34 q len cap) (l1 : 0 ≤ x1) (g1 : x1 ≤ 255) (l2 : 0 ≤ x2) (g2 : x2 ≤ 255)
    (l3 : 0 ≤ x3) (g3 : x3 ≤ 4294967295) (l4 : 0 ≤ x4) (g4 : x4 ≤ 4294967295) :
    Am.Rec.call (Am.Run env) 9 [.slice q len cap, .int .u8 x1, .int .u8 x2, .int .u32 x3, .int .u32 x4] H fun v _ => v = .bool true := by
  obtain ⟨A, hA⟩ := scr_of hs
  rw [eq9]
  simp only [joinP_eq, br_true, br_false, req_true, look_cons, look_nil, reduceIte, reduceCtorEq, T_val_v, isKT_k, isKT_agg, isKT_lp, isLK_c, locCells_c, nthV_zero, nthV_one, nthV_two, vals_tuple, aggCells_agg, isAgg_agg, getInt_int, getBool_bool, getStr_str, getPtr_ptr, slPtr_slice, slLen_slice, slCap_slice, isK_int, isK_bool, isK_str, isK_ptr, isK_slice, isTuple_tuple, List.length_cons, List.length_nil, Bool.and_true, Bool.true_and, Bool.or_false, Bool.false_or, Bool.and_self, decide_true, decide_false, Bool.not_true, Bool.not_false, beq_dec, ble_dec, Nat.reduceAdd, Nat.reduceEqDiff, Nat.reduceEqDiff, sp_awake, sp_None, R.fits_cs, R.open_cs]
  refine lp_ResvOthers x1 x2 x3 x4 40 0 _ H (by omega) hA inv0 (fun r H' hr => ?_)
  have w1 : IntKind.i64.wrap (x1 % 8) = x1 % 8 := wrap_in (by omega) (by omega)
  have w2 : IntKind.u8.wrap (4 + x2 % 5) = 4 + x2 % 5 := IntWalk.u8_in _ (by omega)
  have e0 : 0 ≤ x1 % 8 := by omega
  have e8 : x1 % 8 < 8 := by omega
  have e4 : (x1 % 8).toNat < 8 := by omega
  have e6 : Nat.succ (x1 % 8).toNat ≤ 12 := by omega
  simp only [joinP_eq, br_true, br_false, req_true, look_cons, look_nil, reduceIte, reduceCtorEq, T_val_v, isKT_k, isKT_agg, isKT_lp, isLK_c, locCells_c, nthV_zero, nthV_one, nthV_two, vals_tuple, aggCells_agg, isAgg_agg, getInt_int, getBool_bool, getStr_str, getPtr_ptr, slPtr_slice, slLen_slice, slCap_slice, isK_int, isK_bool, isK_str, isK_ptr, isK_slice, isTuple_tuple, List.length_cons, List.length_nil, Bool.and_true, Bool.true_and, Bool.or_false, Bool.false_or, Bool.and_self, decide_true, decide_false, Bool.not_true, Bool.not_false, beq_dec, ble_dec, Nat.reduceAdd, Nat.reduceEqDiff, Nat.reduceEqDiff, R.fits_cs, R.open_cs, tmod_pos l1, tmod_pos l2, w1, w2, e0, e8, e6, idx, nth_key' r e4, Cm.fold', sp_Do]
  by_cases hn : x3 = r.k (x1 % 8).toNat
  · simp [hn]
  · have hd := do_other (r := r) (c := ⟨4 + x2 % 5, 0, none, 0, 0, false, x3, x4, 1, false⟩) e0 e8 ⟨by simp only []; omega, by simp only []; omega⟩ rfl hn
    simp only [hd]
    simp [hn]

theorem law_ResvClears (q : Option (Nat × Nat)) (len cap : Nat) (x1 : Int) (hs : SlTy env.P H 34 q len cap) (l1 : 0 ≤ x1) (g1 : x1 ≤ 255) :
    Am.Rec.call (Am.Run env) 7 [.slice q len cap, .int .u8 x1] H fun v _ => v = .bool true := by
  obtain ⟨A, hA⟩ := scr_of hs
  rw [eq7]
  simp only [joinP_eq, br_true, br_false, req_true, look_cons, look_nil, reduceIte, reduceCtorEq, T_val_v, isKT_k, isKT_agg, isKT_lp, isLK_c, locCells_c, nthV_zero, nthV_one, nthV_two, vals_tuple, aggCells_agg, isAgg_agg, getInt_int, getBool_bool, getStr_str, getPtr_ptr, slPtr_slice, slLen_slice, slCap_slice, isK_int, isK_bool, isK_str, isK_ptr, isK_slice, isTuple_tuple, List.length_cons, List.length_nil, Bool.and_true, Bool.true_and, Bool.or_false, Bool.false_or, Bool.and_self, decide_true, decide_false, Bool.not_true, Bool.not_false, beq_dec, ble_dec, Nat.reduceAdd, Nat.reduceEqDiff, Nat.reduceEqDiff, sp_awake, sp_None, R.fits_cs, R.open_cs]
  refine lp_ResvClears x1 40 0 _ H (by omega) hA inv0 (fun r H' hr => ?_)
  have w1 : IntKind.i64.wrap (x1 % 8) = x1 % 8 := wrap_in (by omega) (by omega)
  have e0 : 0 ≤ x1 % 8 := by omega
  have e8 : x1 % 8 < 8 := by omega
  have e4 : (x1 % 8).toNat < 8 := by omega
  have e6 : Nat.succ (x1 % 8).toNat ≤ 12 := by omega
  simp only [joinP_eq, br_true, br_false, req_true, look_cons, look_nil, reduceIte, reduceCtorEq, T_val_v, isKT_k, isKT_agg, isKT_lp, isLK_c, locCells_c, nthV_zero, nthV_one, nthV_two, vals_tuple, aggCells_agg, isAgg_agg, getInt_int, getBool_bool, getStr_str, getPtr_ptr, slPtr_slice, slLen_slice, slCap_slice, isK_int, isK_bool, isK_str, isK_ptr, isK_slice, isTuple_tuple, List.length_cons, List.length_nil, Bool.and_true, Bool.true_and, Bool.or_false, Bool.false_or, Bool.and_self, decide_true, decide_false, Bool.not_true, Bool.not_false, beq_dec, ble_dec, Nat.reduceAdd, Nat.reduceEqDiff, Nat.reduceEqDiff, R.fits_cs, R.open_cs, tmod_pos l1, w1, e0, e8, e6, idx, nth_key' r e4, Cm.fold', sp_Do]
  by_cases hn : r.k (x1 % 8).toNat = 0
  · have hd : doR r (x1 % 8) ⟨7, 0, none, 0, 0, false, 0, 0, 0, false⟩ = (r, 13) := by
      unfold doR key
      grind
    simp only [hn, hd]
    simp
  · have hd : doR r (x1 % 8) ⟨7, 0, none, 0, 0, false, r.k (x1 % 8).toNat, 0, 0, false⟩ = (⟨fun _ => 0, 0, -1, IntKind.u32.wrap (r.ge + 1), r.la⟩, 0) := by
      unfold doR key
      grind
    have hn' : decide (r.k (x1 % 8).toNat = 0) = false := by simp [hn]
    simp only [hd, hn', br_false]
    generalize hR : (⟨fun _ => 0, 0, -1, IntKind.u32.wrap (r.ge + 1), r.la⟩ : R) = R0
    have lp : ∀ (m i : Nat), 8 ≤ i + m → ∀ (Kr : St → Prop) (Ke : Nat → St → Prop),
        Ke 2 (St.mk (Am.look [(10, T.lp 10 0), (11, T.v (V.int .i64 0))]) (Am.look [(10, Loc.cells 30 R0.cs)]) H') →
        Am.Rec.loop (Am.Run env) (Am.loopAt env 7 18) 7 18
          (St.mk (Am.look [(10, T.lp 10 0), (11, T.v (V.int .i64 0)), (12, T.v (V.int .i64 i))]) (Am.look [(10, Loc.cells 30 R0.cs)]) H') Kr Ke := by
      intro m
      induction m with
      | zero =>
        intro i hi Kr Ke hk
        have e1 : decide ((i : Int) < 8) = false := by simp; omega
        unfold R.cs at hk ⊢
        rw [lp7_18]
        simp only [e1, br_false]
        exact hk
      | succ m ih =>
        intro i hi Kr Ke hk
        by_cases hl : i < 8
        · have e1 : decide ((i : Int) < 8) = true := by simp; omega
          have e2 : decide (0 ≤ (i : Int)) = true := by simp
          have e6 : Nat.succ i ≤ 12 := by omega
          have e5 : 0 + i * 1 = i := by omega
          have hp : permits R0 i true = true := by
            subst hR; unfold permits inR; simp; omega
          have hh : holds R0 i = false := by subst hR; unfold holds; simp
          have hz : R0.k i = 0 := by subst hR; rfl
          conv => unfold R.cs
          rw [lp7_18, wrap_succ (by omega)]
          simp only [e1, e2, joinP_eq, br_true, br_false, req_true, look_cons, look_nil, reduceIte, reduceCtorEq, T_val_v, isKT_k, isKT_agg, isKT_lp, isLK_c, locCells_c, nthV_zero, nthV_one, nthV_two, vals_tuple, aggCells_agg, isAgg_agg, getInt_int, getBool_bool, getStr_str, getPtr_ptr, slPtr_slice, slLen_slice, slCap_slice, isK_int, isK_bool, isK_str, isK_ptr, isK_slice, isTuple_tuple, List.length_cons, List.length_nil, Bool.and_true, Bool.true_and, Bool.or_false, Bool.false_or, Bool.and_self, decide_true, decide_false, Bool.not_true, Bool.not_false, beq_dec, ble_dec, Nat.reduceAdd, Nat.reduceEqDiff, Nat.reduceEqDiff, Int.toNat_natCast, e5, e6, R.fold, nth_key' R0 hl, hz, sp_Permits, sp_Holds, hp, hh]
          exact ih (i + 1) (by omega) Kr Ke hk
        · have e1 : decide ((i : Int) < 8) = false := by simp; omega
          unfold R.cs at hk ⊢
          rw [lp7_18]
          simp only [e1, br_false]
          exact hk
    refine lp 8 0 (by omega) _ _ ?_
    subst hR
    simp only [joinP_eq, br_true, br_false, req_true, look_cons, look_nil, reduceIte, reduceCtorEq, T_val_v, isKT_k, isKT_agg, isKT_lp, isLK_c, locCells_c, nthV_zero, nthV_one, nthV_two, vals_tuple, aggCells_agg, isAgg_agg, getInt_int, getBool_bool, getStr_str, getPtr_ptr, slPtr_slice, slLen_slice, slCap_slice, isK_int, isK_bool, isK_str, isK_ptr, isK_slice, isTuple_tuple, List.length_cons, List.length_nil, Bool.and_true, Bool.true_and, Bool.or_false, Bool.false_or, Bool.and_self, decide_true, decide_false, Bool.not_true, Bool.not_false, beq_dec, ble_dec, Nat.reduceAdd, Nat.reduceEqDiff, Nat.reduceEqDiff, R.fits_cs, R.open_cs, R.at8, R.at9]

theorem do_counts (r : R) (h : Int) (c : Cm) :
    (doR r h c).1.ge = if (doR r h c).2 = 0 ∧ (c.kd = 4 ∨ c.kd = 7 ∨ c.kd = 8) then IntKind.u32.wrap (r.ge + 1) else r.ge := by
  unfold doR registerR leaveR preemptR takeR dropR
  grind (splits := 40)

theorem lp_ResvCounts {p : Option (Nat × Nat)} {n c0 : Nat} {A : Nat → Act} {Kr : St → Prop} {Ke : Nat → St → Prop} : ∀ (m i : Nat) (r : R) (H : Am.Heap), 80 ≤ i + m → Scr H p n A → (∀ H', Ke 0 (St.mk (Am.look []) (Am.look []) H')) →
    Am.Rec.loop (Am.Run env) (Am.loopAt env 6 6) 6 6
      (St.mk (Am.look [(0, T.v (V.slice p n c0)), (3, T.lp 3 0), (4, T.v (V.int .i64 i))]) (Am.look [(3, Loc.cells 30 r.cs)]) H) Kr Ke
  | 0, i, r, H, hm, hs, hk => by
    have e1 : decide ((i : Int) < 80) = false := by simp; omega
    unfold R.cs
    rw [lp6_6]
    simp only [e1, Bool.and_false, br_false]
    exact hk H
  | m + 1, i, r, H, hm, hs, hk => by
    have ih := fun (r' : R) => lp_ResvCounts (c0 := c0) (Kr := Kr) (Ke := Ke) m (i + 1) r' (H.alloc tabObj) (by omega) (hs.alloc _) hk
    by_cases hi : i < n
    · by_cases hl : i < 80
      · obtain ⟨f1, f2, f3, f4⟩ := hs.facts hi
        have e1 : decide ((i : Int) < (n : Int)) = true := by simp; omega
        have e2 : decide ((i : Int) < 80) = true := by simp; omega
        have e3 : decide (0 ≤ (i : Int)) = true := by simp
        conv => unfold R.cs
        rw [lp6_6, wrap_succ (by omega)]
        simp only [e1, e2, e3, f1, f2, f3, Int.toNat_natCast, joinP_eq, br_true, br_false, req_true, look_cons, look_nil, reduceIte, reduceCtorEq, T_val_v, isKT_k, isKT_agg, isKT_lp, isLK_c, locCells_c, nthV_zero, nthV_one, nthV_two, vals_tuple, aggCells_agg, isAgg_agg, getInt_int, getBool_bool, getStr_str, getPtr_ptr, slPtr_slice, slLen_slice, slCap_slice, isK_int, isK_bool, isK_str, isK_ptr, isK_slice, isTuple_tuple, List.length_cons, List.length_nil, Bool.and_true, Bool.true_and, Bool.or_false, Bool.false_or, Bool.and_self, decide_true, decide_false, Bool.not_true, Bool.not_false, beq_dec, ble_dec, Nat.reduceAdd, Nat.reduceEqDiff, Nat.reduceEqDiff, R.fold, Act.fits_cs, Act.open_cs, sp_command _ _ _ f4, Cm.fits_cs, Cm.open_cs, sp_Do, R.fits_cs, R.open_cs, Cm.at0, R.at10]
        have hc := do_counts r ((A i).ho % 4) ((A i).cm r)
        refine br_of_false ?_ (ih _)
        clear ih hk f1 f2 f3 f4 e1 e2 e3 hs
        grind
      · have e1 : decide ((i : Int) < 80) = false := by simp; omega
        unfold R.cs
        rw [lp6_6]
        simp only [e1, Bool.and_false, br_false]
        exact hk H
    · have e1 : decide ((i : Int) < (n : Int)) = false := by simp; omega
      unfold R.cs
      rw [lp6_6]
      simp only [e1, Bool.false_and, br_false]
      exact hk H

theorem law_ResvCounts (q : Option (Nat × Nat)) (len cap : Nat) (hs : SlTy env.P H 34 q len cap) :
    Am.Rec.call (Am.Run env) 6 [.slice q len cap] H fun v _ => v = .bool true := by
  obtain ⟨A, hA⟩ := scr_of hs
  rw [eq6]
  simp only [joinP_eq, br_true, br_false, req_true, look_cons, look_nil, reduceIte, reduceCtorEq, T_val_v, isKT_k, isKT_agg, isKT_lp, isLK_c, locCells_c, nthV_zero, nthV_one, nthV_two, vals_tuple, aggCells_agg, isAgg_agg, getInt_int, getBool_bool, getStr_str, getPtr_ptr, slPtr_slice, slLen_slice, slCap_slice, isK_int, isK_bool, isK_str, isK_ptr, isK_slice, isTuple_tuple, List.length_cons, List.length_nil, Bool.and_true, Bool.true_and, Bool.or_false, Bool.false_or, Bool.and_self, decide_true, decide_false, Bool.not_true, Bool.not_false, beq_dec, ble_dec, Nat.reduceAdd, Nat.reduceEqDiff, Nat.reduceEqDiff, sp_awake, sp_None, R.fits_cs, R.open_cs]
  exact lp_ResvCounts 80 0 _ H (by omega) hA (fun H' => by simp)

theorem do_err {r : R} {h : Int} {c : Cm} (he : (doR r h c).2 ≠ 0) : (doR r h c).1 = r := by
  revert he
  unfold doR preemptR
  grind (splits := 40)

theorem law_ResvRaw (q : Option (Nat × Nat)) (len cap : Nat) (x1 : Int) (c : Cm) (hs : SlTy env.P H 34 q len cap) (l1 : -9223372036854775808 ≤ x1) (g1 : x1 ≤ 9223372036854775807) (o : c.ok H) :
    Am.Rec.call (Am.Run env) 3 [.slice q len cap, .int .i64 x1, .agg c.cs] H fun v _ => v = .bool true := by
  obtain ⟨A, hA⟩ := scr_of hs
  unfold Cm.cs
  rw [eq3]
  simp only [joinP_eq, br_true, br_false, req_true, look_cons, look_nil, reduceIte, reduceCtorEq, T_val_v, isKT_k, isKT_agg, isKT_lp, isLK_c, locCells_c, nthV_zero, nthV_one, nthV_two, vals_tuple, aggCells_agg, isAgg_agg, getInt_int, getBool_bool, getStr_str, getPtr_ptr, slPtr_slice, slLen_slice, slCap_slice, isK_int, isK_bool, isK_str, isK_ptr, isK_slice, isTuple_tuple, List.length_cons, List.length_nil, Bool.and_true, Bool.true_and, Bool.or_false, Bool.false_or, Bool.and_self, decide_true, decide_false, Bool.not_true, Bool.not_false, beq_dec, ble_dec, Nat.reduceAdd, Nat.reduceEqDiff, Nat.reduceEqDiff, sp_awake, sp_None, R.fits_cs, R.open_cs]
  by_cases hd : (c.dn : Int) > 200
  · simp [hd]
  · have hd' : decide ((c.dn : Int) > 200) = false := by simp; omega
    simp only [hd', br_false, cond_true]
    refine lp_ResvRaw x1 c 20 0 _ H (by omega) hA inv0 (fun r H' hr => ?_)
    simp only [joinP_eq, br_true, br_false, req_true, look_cons, look_nil, reduceIte, reduceCtorEq, T_val_v, isKT_k, isKT_agg, isKT_lp, isLK_c, locCells_c, nthV_zero, nthV_one, nthV_two, vals_tuple, aggCells_agg, isAgg_agg, getInt_int, getBool_bool, getStr_str, getPtr_ptr, slPtr_slice, slLen_slice, slCap_slice, isK_int, isK_bool, isK_str, isK_ptr, isK_slice, isTuple_tuple, List.length_cons, List.length_nil, Bool.and_true, Bool.true_and, Bool.or_false, Bool.false_or, Bool.and_self, decide_true, decide_false, Bool.not_true, Bool.not_false, beq_dec, ble_dec, Nat.reduceAdd, Nat.reduceEqDiff, Nat.reduceEqDiff, Cm.fold, R.fits_cs, R.open_cs, Cm.fits_cs, Cm.open_cs, sp_Do, sp_rDo _ _ r hr, sp_Right, sp_rRight]
    by_cases he : (doR r x1 c).2 = 0
    · simp [he]
    · simp [he, do_err he]

theorem do_preempt {r : R} (hr : Inv r) {h v t : Int} (h0 : 0 ≤ h) (h8 : h < 8) (v0 : 0 ≤ v) (v8 : v < 8) (hv : h ≠ v) (k1 : r.k h.toNat ≠ 0) (k2 : r.k v.toNat ≠ 0) (k3 : r.k v.toNat ≠ r.k h.toNat) (ht : right t = true) :
    doR r h ⟨8, 0, none, 0, 0, false, r.k h.toNat, r.k v.toNat, t, false⟩ =
      if hoB r h (r.k v.toNat) false 8 = true then (takeR (dropR ⟨kV r h (r.k v.toNat) 8, r.ty, r.ho, IntKind.u32.wrap (r.ge + 1), r.la⟩) h t, 0)
      else (⟨kV r h (r.k v.toNat) 8, r.ty, r.ho, IntKind.u32.wrap (r.ge + 1), r.la⟩, 0) := by
  have hvb : vicB r h (r.k v.toNat) 8 = true := by
    rw [vicB_iff]
    refine ⟨v.toNat, by omega, ?_⟩
    rw [vic_iff]
    exact ⟨k2, by omega, .inr rfl⟩
  have hb : (decide (r.k v.toNat = 0) || (decide (r.k v.toNat = r.k h.toNat) && (!decide (r.ty = 0) && decide (r.ho = h)))) = false := by
    simp [k2, k3]
  unfold doR preemptR key
  simp only []
  rw [hb, hvb]
  have e1 : (decide (h < 0) || (decide (h ≥ 8) || (decide ((8 : Int) < 4) || decide ((8 : Int) > 8)))) = false := by simp; omega
  simp [e1, ht, k1, k2]
  omega

end

end Go.Proofs.Ytmoopebmajefkaa
