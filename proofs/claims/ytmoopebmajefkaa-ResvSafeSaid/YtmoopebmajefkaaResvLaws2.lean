/- The laws of reservations: who was preempted; that all is sound at any time. -/
import Derived.Test.YtmoopebmajefkaaResvLaws
namespace Go.Proofs.Ytmoopebmajefkaa
open Go.Am
set_option maxRecDepth 100000
set_option linter.unusedSimpArgs false
set_option linter.unusedVariables false

theorem mergeR_tt (c : Bool) : Am.mergeR c true true = true := by cases c <;> rfl

/-- What a Preempt leaves. -/
structure Pre (r s : R) (h v : Int) : Prop where
  keys : ∀ i : Nat, i < 8 → s.k i = if (i : Int) ≠ h ∧ r.k i = r.k v.toNat then 0 else r.k i
  gone : ∀ i : Nat, i < 8 → (i : Int) ≠ h → r.k i = r.k v.toNat → s.ty ≠ 0 → permits s i true = false
  took : holds r v = true → r.ty ≠ 7 → r.ty ≠ 8 → holds s h = true
  gen : s.ge = IntKind.u32.wrap (r.ge + 1)

theorem permits_none {s : R} {i : Nat} (hk : s.k i = 0) (h0 : s.ty ≠ 0) (hh : s.ho ≠ i) : permits s i true = false := by
  unfold permits holds key
  simp only [Int.toNat_natCast, hk]
  grind

theorem pre_of {r : R} {h v t : Int} (h0 : 0 ≤ h) (h8 : h < 8) (v0 : 0 ≤ v) (v8 : v < 8) (hv : h ≠ v) (k1 : r.k h.toNat ≠ 0) (k2 : r.k v.toNat ≠ 0) (k3 : r.k v.toNat ≠ r.k h.toNat) (ht : right t = true) (s : R)
    (hs : s = if hoB r h (r.k v.toNat) false 8 = true then takeR (dropR ⟨kV r h (r.k v.toNat) 8, r.ty, r.ho, IntKind.u32.wrap (r.ge + 1), r.la⟩) h t
      else ⟨kV r h (r.k v.toNat) 8, r.ty, r.ho, IntKind.u32.wrap (r.ge + 1), r.la⟩) : Pre r s h v := by
  have hk : ∀ i : Nat, i < 8 → kV r h (r.k v.toNat) 8 i = if (i : Int) ≠ h ∧ r.k i = r.k v.toNat then 0 else r.k i := by
    intro i hi
    rw [kV_spec]
    have := @vic_iff r h (r.k v.toNat) i
    grind
  by_cases hb : hoB r h (r.k v.toNat) false 8 = true
  · rw [if_pos hb] at hs
    subst hs
    refine ⟨hk, ?_, ?_, rfl⟩
    · intro i hi hn hg h0
      refine permits_none ?_ h0 ?_
      · show kV r h (r.k v.toNat) 8 i = 0
        rw [hk i hi, if_pos ⟨hn, hg⟩]
      · show (if all8 t then -1 else h) ≠ (i : Int)
        split <;> omega
    · intro _ _ _
      have hkh : kV r h (r.k v.toNat) 8 h.toNat = r.k h.toNat := by
        rw [hk _ (by omega), if_neg]
        omega
      have ht0 : t ≠ 0 := by rw [right_iff] at ht; omega
      unfold holds takeR dropR key
      simp only [in_of h0 h8, hkh]
      cases all8 t <;> simp [ht0, k1]
  · rw [if_neg hb] at hs
    subst hs
    have hb' := fun j hj => mt (hoB_iff r h (r.k v.toNat) false 8).mpr hb (.inr ⟨j, hj⟩)
    refine ⟨hk, ?_, ?_, rfl⟩
    · intro i hi hn hg h0
      refine permits_none ?_ h0 ?_
      · show kV r h (r.k v.toNat) 8 i = 0
        rw [hk i hi, if_pos ⟨hn, hg⟩]
      · intro hh
        refine hb' i ⟨hi, ?_, hh⟩
        rw [vic_iff]
        exact ⟨by rw [hg]; exact k2, hn, .inr hg⟩
    · intro hh h7 h8'
      exfalso
      have hho : r.ho = v := by
        have ha : all8 r.ty = false := by
          have := @all8_iff r.ty
          cases h : all8 r.ty
          · rfl
          · simp_all
        unfold holds at hh
        rw [ha] at hh
        simp at hh
        exact hh.2
      refine hb' v.toNat ⟨by omega, ?_, by omega⟩
      rw [vic_iff]
      exact ⟨k2, by omega, .inr rfl⟩

theorem lp_pre {r s : R} {h v : Int} (h0 : 0 ≤ h) (h8 : h < 8) (v0 : 0 ≤ v) (v8 : v < 8) (hp : Pre r s h v) (H : Am.Heap) (Kr : St → Prop) (Ke : Nat → St → Prop)
    (hk : Ke 2 (St.mk (Am.look [(9, T.lp 9 0), (13, T.v (V.int .i64 h)), (14, T.v (V.int .i64 v)), (15, T.lp 15 0)]) (Am.look [(9, Loc.cells 30 r.cs), (15, Loc.cells 30 s.cs)]) H)) :
    ∀ (m i : Nat), 8 ≤ i + m →
      Am.Rec.loop (Am.Run env) (Am.loopAt env 5 22) 5 22
        (St.mk (Am.look [(9, T.lp 9 0), (13, T.v (V.int .i64 h)), (14, T.v (V.int .i64 v)), (15, T.lp 15 0), (17, T.v (V.int .i64 i))]) (Am.look [(9, Loc.cells 30 r.cs), (15, Loc.cells 30 s.cs)]) H) Kr Ke
  | m, i, hi => by
    by_cases hl : i < 8
    · obtain ⟨m, rfl⟩ : ∃ m', m = m' + 1 := ⟨m - 1, by omega⟩
      have ih := lp_pre h0 h8 v0 v8 hp H Kr Ke hk m (i + 1) (by omega)
      have e1 : decide ((i : Int) < 8) = true := by simp; omega
      have e2 : decide (0 ≤ (i : Int)) = true := by simp
      have e3 : decide (0 ≤ v) = true := by simp; omega
      have e4 : decide (v < 8) = true := by simp; omega
      have e5 : 0 + i * 1 = i := by omega
      have e6 : Nat.succ i ≤ 12 := by omega
      have e7 : Nat.succ v.toNat ≤ 12 := by omega
      have e8 : v.toNat < 8 := by omega
      have hki := hp.keys i hl
      have hg := hp.gone i hl
      conv => unfold R.cs
      rw [lp5_22, wrap_succ (by omega)]
      simp only [e1, e2, e3, e4, joinP_eq, br_true, br_false, req_true, look_cons, look_nil, reduceIte, reduceCtorEq, T_val_v, isKT_k, isKT_agg, isKT_lp, isLK_c, locCells_c, nthV_zero, nthV_one, nthV_two, vals_tuple, aggCells_agg, isAgg_agg, getInt_int, getBool_bool, getStr_str, getPtr_ptr, slPtr_slice, slLen_slice, slCap_slice, isK_int, isK_bool, isK_str, isK_ptr, isK_slice, isTuple_tuple, List.length_cons, List.length_nil, Bool.and_true, Bool.true_and, Bool.or_false, Bool.false_or, Bool.and_self, decide_true, decide_false, Bool.not_true, Bool.not_false, beq_dec, ble_dec, Nat.reduceAdd, Nat.reduceEqDiff, Nat.reduceEqDiff, Int.toNat_natCast, e5, e6, e7, idx, R.fold, nth_key' r hl, nth_key' s hl, nth_key' r e8, sp_Permits, mergeR_tt]
      by_cases hn : (i : Int) ≠ h ∧ r.k i = r.k v.toNat
      · rw [if_pos hn] at hki
        have c1 : (i : Int) ≠ h := hn.1
        have c2 : r.k i = r.k v.toNat := hn.2
        simp only [c1, c2, hki, joinP_eq, br_true, br_false, req_true, look_cons, look_nil, reduceIte, reduceCtorEq, T_val_v, isKT_k, isKT_agg, isKT_lp, isLK_c, locCells_c, nthV_zero, nthV_one, nthV_two, vals_tuple, aggCells_agg, isAgg_agg, getInt_int, getBool_bool, getStr_str, getPtr_ptr, slPtr_slice, slLen_slice, slCap_slice, isK_int, isK_bool, isK_str, isK_ptr, isK_slice, isTuple_tuple, List.length_cons, List.length_nil, Bool.and_true, Bool.true_and, Bool.or_false, Bool.false_or, Bool.and_self, decide_true, decide_false, Bool.not_true, Bool.not_false, beq_dec, ble_dec, Nat.reduceAdd, Nat.reduceEqDiff, Nat.reduceEqDiff, mergeR_tt]
        by_cases ht : s.ty = 0
        · simp only [ht, joinP_eq, br_true, br_false, req_true, look_cons, look_nil, reduceIte, reduceCtorEq, T_val_v, isKT_k, isKT_agg, isKT_lp, isLK_c, locCells_c, nthV_zero, nthV_one, nthV_two, vals_tuple, aggCells_agg, isAgg_agg, getInt_int, getBool_bool, getStr_str, getPtr_ptr, slPtr_slice, slLen_slice, slCap_slice, isK_int, isK_bool, isK_str, isK_ptr, isK_slice, isTuple_tuple, List.length_cons, List.length_nil, Bool.and_true, Bool.true_and, Bool.or_false, Bool.false_or, Bool.and_self, decide_true, decide_false, Bool.not_true, Bool.not_false, beq_dec, ble_dec, Nat.reduceAdd, Nat.reduceEqDiff, Nat.reduceEqDiff, mergeR_tt]
          exact ih
        · simp only [ht, hg c1 c2 ht, joinP_eq, br_true, br_false, req_true, look_cons, look_nil, reduceIte, reduceCtorEq, T_val_v, isKT_k, isKT_agg, isKT_lp, isLK_c, locCells_c, nthV_zero, nthV_one, nthV_two, vals_tuple, aggCells_agg, isAgg_agg, getInt_int, getBool_bool, getStr_str, getPtr_ptr, slPtr_slice, slLen_slice, slCap_slice, isK_int, isK_bool, isK_str, isK_ptr, isK_slice, isTuple_tuple, List.length_cons, List.length_nil, Bool.and_true, Bool.true_and, Bool.or_false, Bool.false_or, Bool.and_self, decide_true, decide_false, Bool.not_true, Bool.not_false, beq_dec, ble_dec, Nat.reduceAdd, Nat.reduceEqDiff, Nat.reduceEqDiff, mergeR_tt]
          exact ih
      · rw [if_neg hn] at hki
        have c : (!decide ((i : Int) = h) && decide (r.k i = r.k v.toNat)) = false := by simpa using hn
        simp only [c, hki, joinP_eq, br_true, br_false, req_true, look_cons, look_nil, reduceIte, reduceCtorEq, T_val_v, isKT_k, isKT_agg, isKT_lp, isLK_c, locCells_c, nthV_zero, nthV_one, nthV_two, vals_tuple, aggCells_agg, isAgg_agg, getInt_int, getBool_bool, getStr_str, getPtr_ptr, slPtr_slice, slLen_slice, slCap_slice, isK_int, isK_bool, isK_str, isK_ptr, isK_slice, isTuple_tuple, List.length_cons, List.length_nil, Bool.and_true, Bool.true_and, Bool.or_false, Bool.false_or, Bool.and_self, decide_true, decide_false, Bool.not_true, Bool.not_false, beq_dec, ble_dec, Nat.reduceAdd, Nat.reduceEqDiff, Nat.reduceEqDiff, mergeR_tt]
        exact ih
    · have e1 : decide ((i : Int) < 8) = false := by simp; omega
      unfold R.cs at hk ⊢
      rw [lp5_22]
      simp only [e1, br_false]
      exact hk

theorem types_at {t : Int} (t0 : 0 ≤ t) (t6 : t < 6) : ∃ ty, nthV (c46 1 3 5 6 7 8) t.toNat = .int .u8 ty ∧ right ty = true := by
  have h : t.toNat = 0 ∨ t.toNat = 1 ∨ t.toNat = 2 ∨ t.toNat = 3 ∨ t.toNat = 4 ∨ t.toNat = 5 := by omega
  rcases h with h | h | h | h | h | h <;> rw [h] <;> exact ⟨_, rfl, rfl⟩

theorem types_fits : Am.fits k46 (c46 1 3 5 6 7 8) = true := rfl
theorem types_open : o46 (c46 1 3 5 6 7 8) = c46 1 3 5 6 7 8 := rfl

theorem safe_holds {r : R} (hr : Inv r) {i : Nat} (h : holds r i = true) : r.k i ≠ 0 ∧ ∀ w, permits r i w = true := by
  have hp : ∀ w, permits r i w = true := by
    intro w
    have hin : inR i = true := by unfold holds at h; simp at h; exact h.1.1
    unfold permits
    rw [hin, h]
    simp
  refine ⟨?_, hp⟩
  intro hz
  unfold holds key at h
  simp only [Int.toNat_natCast, hz] at h
  have ht : r.ty ≠ 0 := by intro ht; simp [ht] at h
  have ho : r.ho = i := by simp at h; exact h.2
  cases ha : all8 r.ty with
  | true => have := hr.all ha; omega
  | false =>
    obtain ⟨j, hj, h1, h2⟩ := hr.one ht ha
    have : j = i := by omega
    rw [this] at h2
    exact h2 hz

theorem safe_none {r : R} (hr : Inv r) {i : Nat} (ht : r.ty ≠ 0) (hz : r.k i = 0) : permits r i true = false := by
  cases hh : holds r i with
  | true => exact absurd hz (safe_holds hr hh).1
  | false =>
    unfold permits
    rw [hh]
    unfold key
    simp only [Int.toNat_natCast, hz]
    grind

theorem safe_mono {r : R} {h : Int} (hp : permits r h true = true) : permits r h false = true := by
  revert hp
  unfold permits
  grind

theorem lp_safe {r : R} (hr : Inv r) (p : Option (Nat × Nat)) (n c0 : Nat) (t4 : Int) (H : Am.Heap) (Kr : St → Prop) (Ke : Nat → St → Prop)
    (hk : ∀ b, (r.ty ≠ 0 → b = true) → Ke 2 (St.mk (Am.look [(0, T.v (V.slice p n c0)), (3, T.lp 3 0), (4, T.v (V.int .i64 t4)), (7, T.v (V.bool b))]) (Am.look [(3, Loc.cells 30 r.cs)]) H)) :
    ∀ (m i : Nat) (b : Bool), 8 ≤ i + m → ((∃ j : Nat, j < i ∧ r.k j ≠ 0) → b = true) →
      Am.Rec.loop (Am.Run env) (Am.loopAt env 4 13) 4 13
        (St.mk (Am.look [(0, T.v (V.slice p n c0)), (3, T.lp 3 0), (4, T.v (V.int .i64 t4)), (7, T.v (V.bool b)), (8, T.v (V.int .i64 i))]) (Am.look [(3, Loc.cells 30 r.cs)]) H) Kr Ke
  | m, i, b, hi, hb => by
    by_cases hl : i < 8
    · obtain ⟨m, rfl⟩ : ∃ m', m = m' + 1 := ⟨m - 1, by omega⟩
      have ih := lp_safe hr p n c0 t4 H Kr Ke hk m (i + 1) (bif !b then !decide (r.k i = 0) else true) (by omega) (by
        rintro ⟨j, hj, hz⟩
        by_cases hji : j = i
        · subst hji; cases b <;> simp [hz]
        · rw [hb ⟨j, by omega, hz⟩]; rfl)
      have e1 : decide ((i : Int) < 8) = true := by simp; omega
      have e2 : decide (0 ≤ (i : Int)) = true := by simp
      have e5 : 0 + i * 1 = i := by omega
      have e6 : Nat.succ i ≤ 12 := by omega
      conv => unfold R.cs
      rw [lp4_13, wrap_succ (by omega)]
      simp only [e1, e2, joinP_eq, br_true, br_false, req_true, look_cons, look_nil, reduceIte, reduceCtorEq, T_val_v, isKT_k, isKT_agg, isKT_lp, isLK_c, locCells_c, nthV_zero, nthV_one, nthV_two, vals_tuple, aggCells_agg, isAgg_agg, getInt_int, getBool_bool, getStr_str, getPtr_ptr, slPtr_slice, slLen_slice, slCap_slice, isK_int, isK_bool, isK_str, isK_ptr, isK_slice, isTuple_tuple, List.length_cons, List.length_nil, Bool.and_true, Bool.true_and, Bool.or_false, Bool.false_or, Bool.and_self, decide_true, decide_false, Bool.not_true, Bool.not_false, beq_dec, ble_dec, Nat.reduceAdd, Nat.reduceEqDiff, Nat.reduceEqDiff, Int.toNat_natCast, e5, e6, R.fold, nth_key' r hl, sp_Permits, sp_Holds, mergeR_tt]
      have g1 := @safe_holds r hr i
      have g2 := @safe_none r hr i
      have g3 := @safe_mono r i
      clear hk
      cases hh : holds r i with
      | true =>
        obtain ⟨hz, hp⟩ := g1 hh
        simp only [hz, hp, joinP_eq, br_true, br_false, req_true, look_cons, look_nil, reduceIte, reduceCtorEq, T_val_v, isKT_k, isKT_agg, isKT_lp, isLK_c, locCells_c, nthV_zero, nthV_one, nthV_two, vals_tuple, aggCells_agg, isAgg_agg, getInt_int, getBool_bool, getStr_str, getPtr_ptr, slPtr_slice, slLen_slice, slCap_slice, isK_int, isK_bool, isK_str, isK_ptr, isK_slice, isTuple_tuple, List.length_cons, List.length_nil, Bool.and_true, Bool.true_and, Bool.or_false, Bool.false_or, Bool.and_self, decide_true, decide_false, Bool.not_true, Bool.not_false, beq_dec, ble_dec, Nat.reduceAdd, Nat.reduceEqDiff, Nat.reduceEqDiff]
        simpa [hz, br_ite] using ih
      | false =>
        simp only [joinP_eq, br_true, br_false, req_true, look_cons, look_nil, reduceIte, reduceCtorEq, T_val_v, isKT_k, isKT_agg, isKT_lp, isLK_c, locCells_c, nthV_zero, nthV_one, nthV_two, vals_tuple, aggCells_agg, isAgg_agg, getInt_int, getBool_bool, getStr_str, getPtr_ptr, slPtr_slice, slLen_slice, slCap_slice, isK_int, isK_bool, isK_str, isK_ptr, isK_slice, isTuple_tuple, List.length_cons, List.length_nil, Bool.and_true, Bool.true_and, Bool.or_false, Bool.false_or, Bool.and_self, decide_true, decide_false, Bool.not_true, Bool.not_false, beq_dec, ble_dec, Nat.reduceAdd, Nat.reduceEqDiff, Nat.reduceEqDiff]
        cases hw : permits r i true with
        | false =>
          simp only [joinP_eq, br_true, br_false, req_true, look_cons, look_nil, reduceIte, reduceCtorEq, T_val_v, isKT_k, isKT_agg, isKT_lp, isLK_c, locCells_c, nthV_zero, nthV_one, nthV_two, vals_tuple, aggCells_agg, isAgg_agg, getInt_int, getBool_bool, getStr_str, getPtr_ptr, slPtr_slice, slLen_slice, slCap_slice, isK_int, isK_bool, isK_str, isK_ptr, isK_slice, isTuple_tuple, List.length_cons, List.length_nil, Bool.and_true, Bool.true_and, Bool.or_false, Bool.false_or, Bool.and_self, decide_true, decide_false, Bool.not_true, Bool.not_false, beq_dec, ble_dec, Nat.reduceAdd, Nat.reduceEqDiff, Nat.reduceEqDiff]
          by_cases ht : r.ty = 0
          · simpa [ht, br_ite] using ih
          · by_cases hz : r.k i = 0
            · simpa [ht, hz, br_ite] using ih
            · simpa [ht, hz, br_ite] using ih
        | true =>
          simp only [g3 hw, joinP_eq, br_true, br_false, req_true, look_cons, look_nil, reduceIte, reduceCtorEq, T_val_v, isKT_k, isKT_agg, isKT_lp, isLK_c, locCells_c, nthV_zero, nthV_one, nthV_two, vals_tuple, aggCells_agg, isAgg_agg, getInt_int, getBool_bool, getStr_str, getPtr_ptr, slPtr_slice, slLen_slice, slCap_slice, isK_int, isK_bool, isK_str, isK_ptr, isK_slice, isTuple_tuple, List.length_cons, List.length_nil, Bool.and_true, Bool.true_and, Bool.or_false, Bool.false_or, Bool.and_self, decide_true, decide_false, Bool.not_true, Bool.not_false, beq_dec, ble_dec, Nat.reduceAdd, Nat.reduceEqDiff, Nat.reduceEqDiff]
          by_cases ht : r.ty = 0
          · simpa [ht, br_ite] using ih
          · by_cases hz : r.k i = 0
            · rw [g2 ht hz] at hw; cases hw
            · simpa [ht, hz, br_ite] using ih
    · have e1 : decide ((i : Int) < 8) = false := by simp; omega
      have := hk b (fun ht => by
        obtain ⟨j, hj, hz⟩ := hr.some ht
        exact hb ⟨j, by omega, hz⟩)
      unfold R.cs at this ⊢
      rw [lp4_13]
      simp only [e1, br_false]
      exact this

theorem lp_Safe {p : Option (Nat × Nat)} {n c0 : Nat} {A : Nat → Act} {Kr : St → Prop} {Ke : Nat → St → Prop} : ∀ (m i : Nat) (r : R) (H : Am.Heap), 80 ≤ i + m → Scr H p n A → Inv r → (∀ H', Ke 0 (St.mk (Am.look []) (Am.look []) H')) →
    Am.Rec.loop (Am.Run env) (Am.loopAt env 4 6) 4 6
      (St.mk (Am.look [(0, T.v (V.slice p n c0)), (3, T.lp 3 0), (4, T.v (V.int .i64 i))]) (Am.look [(3, Loc.cells 30 r.cs)]) H) Kr Ke
  | m, i, r, H, hm, hs, hr, hk => by
    by_cases hi : i < n
    · by_cases hl : i < 80
      · obtain ⟨m, rfl⟩ : ∃ m', m = m' + 1 := ⟨m - 1, by omega⟩
        have ih := fun (r' : R) => lp_Safe (c0 := c0) (Kr := Kr) (Ke := Ke) m (i + 1) r' (H.alloc tabObj) (by omega) (hs.alloc _)
        obtain ⟨f1, f2, f3, f4⟩ := hs.facts hi
        have e1 : decide ((i : Int) < (n : Int)) = true := by simp; omega
        have e2 : decide ((i : Int) < 80) = true := by simp; omega
        have e3 : decide (0 ≤ (i : Int)) = true := by simp
        conv => unfold R.cs
        rw [lp4_6]
        simp only [e1, e2, e3, f1, f2, f3, Int.toNat_natCast, joinP_eq, br_true, br_false, req_true, look_cons, look_nil, reduceIte, reduceCtorEq, T_val_v, isKT_k, isKT_agg, isKT_lp, isLK_c, locCells_c, nthV_zero, nthV_one, nthV_two, vals_tuple, aggCells_agg, isAgg_agg, getInt_int, getBool_bool, getStr_str, getPtr_ptr, slPtr_slice, slLen_slice, slCap_slice, isK_int, isK_bool, isK_str, isK_ptr, isK_slice, isTuple_tuple, List.length_cons, List.length_nil, Bool.and_true, Bool.true_and, Bool.or_false, Bool.false_or, Bool.and_self, decide_true, decide_false, Bool.not_true, Bool.not_false, beq_dec, ble_dec, Nat.reduceAdd, Nat.reduceEqDiff, Nat.reduceEqDiff, R.fold, Act.fits_cs, Act.open_cs, sp_command _ _ _ f4, Cm.fits_cs, Cm.open_cs, sp_Do, R.fits_cs, R.open_cs]
        have hr' : Inv (doR r ((A i).ho % 4) ((A i).cm r)).1 := do_inv hr _ _
        generalize (doR r ((A i).ho % 4) ((A i).cm r)).1 = r' at *
        refine lp_safe hr' p n c0 i (H.alloc tabObj) _ _ (fun b hb => ?_) 8 0 false (by omega) (by rintro ⟨j, hj, _⟩; omega)
        simp only [joinP_eq, br_true, br_false, req_true, look_cons, look_nil, reduceIte, reduceCtorEq, T_val_v, isKT_k, isKT_agg, isKT_lp, isLK_c, locCells_c, nthV_zero, nthV_one, nthV_two, vals_tuple, aggCells_agg, isAgg_agg, getInt_int, getBool_bool, getStr_str, getPtr_ptr, slPtr_slice, slLen_slice, slCap_slice, isK_int, isK_bool, isK_str, isK_ptr, isK_slice, isTuple_tuple, List.length_cons, List.length_nil, Bool.and_true, Bool.true_and, Bool.or_false, Bool.false_or, Bool.and_self, decide_true, decide_false, Bool.not_true, Bool.not_false, beq_dec, ble_dec, Nat.reduceAdd, Nat.reduceEqDiff, Nat.reduceEqDiff, R.fits_cs, R.open_cs, R.at8, R.at9]
        rw [wrap_succ (by omega)]
        refine br_of_false ?_ (ih r' hr' hk)
        clear ih hk f1 f2 f3 f4 e1 e2 e3 hs
        have q1 := hr'.none
        have q2 := hr'.all
        rw [all8_iff] at q2
        by_cases ht : r'.ty = 0
        · simp [ht, q1 ht]
        · rw [hb ht]
          by_cases h7 : r'.ty = 7
          · simp [h7, q2 (.inl h7)]
          · by_cases h8 : r'.ty = 8
            · simp [h8, q2 (.inr h8)]
            · simp [ht, h7, h8]
      · have e1 : decide ((i : Int) < 80) = false := by simp; omega
        unfold R.cs
        rw [lp4_6]
        simp only [e1, Bool.and_false, br_false]
        exact hk H
    · have e1 : decide ((i : Int) < (n : Int)) = false := by simp; omega
      unfold R.cs
      rw [lp4_6]
      simp only [e1, Bool.false_and, br_false]
      exact hk H

section
variable (H : Am.Heap) (K : V → Am.Heap → Prop)

theorem law_ResvPreempts (q : Option (Nat × Nat)) (len cap : Nat) (x1 x2 x3 : Int) (hs : SlTy env.P H 34 q len cap) (l1 : 0 ≤ x1) (g1 : x1 ≤ 255) (l2 : 0 ≤ x2) (g2 : x2 ≤ 255) (l3 : 0 ≤ x3) (g3 : x3 ≤ 255) :
    Am.Rec.call (Am.Run env) 5 [.slice q len cap, .int .u8 x1, .int .u8 x2, .int .u8 x3] H fun v _ => v = .bool true := by
  obtain ⟨A, hA⟩ := scr_of hs
  rw [eq5]
  simp only [joinP_eq, br_true, br_false, req_true, look_cons, look_nil, reduceIte, reduceCtorEq, T_val_v, isKT_k, isKT_agg, isKT_lp, isLK_c, locCells_c, nthV_zero, nthV_one, nthV_two, vals_tuple, aggCells_agg, isAgg_agg, getInt_int, getBool_bool, getStr_str, getPtr_ptr, slPtr_slice, slLen_slice, slCap_slice, isK_int, isK_bool, isK_str, isK_ptr, isK_slice, isTuple_tuple, List.length_cons, List.length_nil, Bool.and_true, Bool.true_and, Bool.or_false, Bool.false_or, Bool.and_self, decide_true, decide_false, Bool.not_true, Bool.not_false, beq_dec, ble_dec, Nat.reduceAdd, Nat.reduceEqDiff, Nat.reduceEqDiff, sp_awake, sp_None, R.fits_cs, R.open_cs]
  refine lp_ResvPreempts x1 x2 x3 30 0 _ H (by omega) hA inv0 (fun r H' hr => ?_)
  have w1 : IntKind.i64.wrap (x1 % 8) = x1 % 8 := wrap_in (by omega) (by omega)
  have w2 : IntKind.i64.wrap (x2 % 8) = x2 % 8 := wrap_in (by omega) (by omega)
  have w3 : IntKind.i64.wrap x3 = x3 := wrap_in (by omega) (by omega)
  obtain ⟨h, rfl⟩ : ∃ h, h = x1 % 8 := ⟨_, rfl⟩
  have e0 : 0 ≤ x1 % 8 := by omega
  have e8 : x1 % 8 < 8 := by omega
  have f0 : 0 ≤ x2 % 8 := by omega
  have f8 : x2 % 8 < 8 := by omega
  have t0 : 0 ≤ x3 % 6 := by omega
  have t6 : x3 % 6 < 6 := by omega
  simp only [joinP_eq, br_true, br_false, req_true, look_cons, look_nil, reduceIte, reduceCtorEq, T_val_v, isKT_k, isKT_agg, isKT_lp, isLK_c, locCells_c, nthV_zero, nthV_one, nthV_two, vals_tuple, aggCells_agg, isAgg_agg, getInt_int, getBool_bool, getStr_str, getPtr_ptr, slPtr_slice, slLen_slice, slCap_slice, isK_int, isK_bool, isK_str, isK_ptr, isK_slice, isTuple_tuple, List.length_cons, List.length_nil, Bool.and_true, Bool.true_and, Bool.or_false, Bool.false_or, Bool.and_self, decide_true, decide_false, Bool.not_true, Bool.not_false, beq_dec, ble_dec, Nat.reduceAdd, Nat.reduceEqDiff, Nat.reduceEqDiff, tmod_pos l1, tmod_pos l2, tmod_pos l3, w1, w2, w3]
  generalize x1 % 8 = h at *
  generalize x2 % 8 = v at *
  generalize x3 % 6 = t at *
  have d0 : decide (0 ≤ h) = true := by simp; omega
  have d1 : decide (h < 8) = true := by simp; omega
  have d2 : decide (0 ≤ v) = true := by simp; omega
  have d3 : decide (v < 8) = true := by simp; omega
  have d4 : decide (0 ≤ t) = true := by simp; omega
  have d5 : decide (t < 6) = true := by simp; omega
  have e4 : h.toNat < 8 := by omega
  have e6 : Nat.succ h.toNat ≤ 12 := by omega
  have f4 : v.toNat < 8 := by omega
  have f6 : Nat.succ v.toNat ≤ 12 := by omega
  have u6 : Nat.succ (t.toNat * 1) ≤ 6 := by omega
  simp only [joinP_eq, br_true, br_false, req_true, look_cons, look_nil, reduceIte, reduceCtorEq, T_val_v, isKT_k, isKT_agg, isKT_lp, isLK_c, locCells_c, nthV_zero, nthV_one, nthV_two, vals_tuple, aggCells_agg, isAgg_agg, getInt_int, getBool_bool, getStr_str, getPtr_ptr, slPtr_slice, slLen_slice, slCap_slice, isK_int, isK_bool, isK_str, isK_ptr, isK_slice, isTuple_tuple, List.length_cons, List.length_nil, Bool.and_true, Bool.true_and, Bool.or_false, Bool.false_or, Bool.and_self, decide_true, decide_false, Bool.not_true, Bool.not_false, beq_dec, ble_dec, Nat.reduceAdd, Nat.reduceEqDiff, Nat.reduceEqDiff, R.fits_cs, R.open_cs, d0, d1, d2, d3, d4, d5, e6, f6, u6, idx, nth_key' r e4, nth_key' r f4, mergeR_tt, sp_Types]
  by_cases c1 : h = v
  · simp [c1]
  by_cases c2 : r.k h.toNat = 0
  · simp [c2]
  by_cases c3 : r.k v.toNat = 0
  · simp [c3]
  by_cases c4 : r.k v.toNat = r.k h.toNat
  · simp [c4]
  obtain ⟨ty, hty, hrt⟩ := types_at t0 t6
  have u7 : t.toNat * 1 = t.toNat := by omega
  obtain ⟨s, hs2⟩ : ∃ s, s = if hoB r h (r.k v.toNat) false 8 = true then takeR (dropR ⟨kV r h (r.k v.toNat) 8, r.ty, r.ho, IntKind.u32.wrap (r.ge + 1), r.la⟩) h ty
      else ⟨kV r h (r.k v.toNat) 8, r.ty, r.ho, IntKind.u32.wrap (r.ge + 1), r.la⟩ := ⟨_, rfl⟩
  have hp := pre_of e0 e8 f0 f8 c1 c2 c3 c4 hrt s hs2
  have hkh := hp.keys h.toNat e4
  rw [if_neg (by omega)] at hkh
  have hd : doR r h ⟨8, 0, none, 0, 0, false, r.k h.toNat, r.k v.toNat, ty, false⟩ = (s, 0) := by
    rw [do_preempt hr e0 e8 f0 f8 c1 c2 c3 c4 hrt, hs2]; split <;> rfl
  simp only [c1, c2, c3, c4, joinP_eq, br_true, br_false, req_true, look_cons, look_nil, reduceIte, reduceCtorEq, T_val_v, isKT_k, isKT_agg, isKT_lp, isLK_c, locCells_c, nthV_zero, nthV_one, nthV_two, vals_tuple, aggCells_agg, isAgg_agg, getInt_int, getBool_bool, getStr_str, getPtr_ptr, slPtr_slice, slLen_slice, slCap_slice, isK_int, isK_bool, isK_str, isK_ptr, isK_slice, isTuple_tuple, List.length_cons, List.length_nil, Bool.and_true, Bool.true_and, Bool.or_false, Bool.false_or, Bool.and_self, decide_true, decide_false, Bool.not_true, Bool.not_false, beq_dec, ble_dec, Nat.reduceAdd, Nat.reduceEqDiff, Nat.reduceEqDiff, mergeR_tt, types_fits, types_open, u7, hty, Cm.fold', sp_Do, hd, R.fits_cs, R.open_cs, R.at10, hp.gen, nth_key' s e4, hkh, cond_true]
  refine lp_pre e0 e8 f0 f8 hp H' _ _ ?_ 8 0 (by omega)
  simp only [joinP_eq, br_true, br_false, req_true, look_cons, look_nil, reduceIte, reduceCtorEq, T_val_v, isKT_k, isKT_agg, isKT_lp, isLK_c, locCells_c, nthV_zero, nthV_one, nthV_two, vals_tuple, aggCells_agg, isAgg_agg, getInt_int, getBool_bool, getStr_str, getPtr_ptr, slPtr_slice, slLen_slice, slCap_slice, isK_int, isK_bool, isK_str, isK_ptr, isK_slice, isTuple_tuple, List.length_cons, List.length_nil, Bool.and_true, Bool.true_and, Bool.or_false, Bool.false_or, Bool.and_self, decide_true, decide_false, Bool.not_true, Bool.not_false, beq_dec, ble_dec, Nat.reduceAdd, Nat.reduceEqDiff, Nat.reduceEqDiff, R.fits_cs, R.open_cs, R.at8, sp_Holds]
  cases hh : holds r v
  · simp
  · by_cases h7 : r.ty = 7
    · simp [h7]
    · by_cases h8 : r.ty = 8
      · simp [h8]
      · simp [hp.took hh h7 h8, h7, h8]

theorem law_ResvSafe (q : Option (Nat × Nat)) (len cap : Nat) (hs : SlTy env.P H 34 q len cap) :
    Am.Rec.call (Am.Run env) 4 [.slice q len cap] H fun v _ => v = .bool true := by
  obtain ⟨A, hA⟩ := scr_of hs
  rw [eq4]
  simp only [joinP_eq, br_true, br_false, req_true, look_cons, look_nil, reduceIte, reduceCtorEq, T_val_v, isKT_k, isKT_agg, isKT_lp, isLK_c, locCells_c, nthV_zero, nthV_one, nthV_two, vals_tuple, aggCells_agg, isAgg_agg, getInt_int, getBool_bool, getStr_str, getPtr_ptr, slPtr_slice, slLen_slice, slCap_slice, isK_int, isK_bool, isK_str, isK_ptr, isK_slice, isTuple_tuple, List.length_cons, List.length_nil, Bool.and_true, Bool.true_and, Bool.or_false, Bool.false_or, Bool.and_self, decide_true, decide_false, Bool.not_true, Bool.not_false, beq_dec, ble_dec, Nat.reduceAdd, Nat.reduceEqDiff, Nat.reduceEqDiff, sp_awake, sp_None, R.fits_cs, R.open_cs]
  exact lp_Safe 80 0 _ H (by omega) hA inv0 (fun H' => by simp)

end

end Go.Proofs.Ytmoopebmajefkaa
