/- Laws of layer 14: what is sure. -/
import Derived.Test.YtmionmlellimoaaObjQ
namespace Go.Proofs.Ytmionmlellimoaa
open Go.Am
set_option maxRecDepth 100000
set_option linter.unusedSimpArgs false
set_option linter.unusedVariables false
set_option linter.unusedSectionVars false

section
variable {B : Am.Heap} {L : List Ast} {H : Am.Heap} {K : V → Am.Heap → Prop} {oid mid : Nat} {o : Ob} {n : Nat}

theorem lp_SureA {q1 : Option (Nat × Nat)} {c1 : Nat} {sc : List Ac} (hsc : Rd B q1 (sc.map Ac.cs).flatten) (hok : ∀ a ∈ sc, a.ok B) {x1 : Bool} {Kr : Am.St → Prop} {Ke : Nat → Am.St → Prop} :
    ∀ (m i : Nat) {o : Ob} {H : Am.Heap}, i + m = min sc.length 40 → o.ok → o.su.length = 9 → Sat B H (ObjA oid o :: L) →
    (∀ (o : Ob) H', o.ok → o.su.length = 9 → Sat B H' (ObjA oid o :: L) → Ke 0 (St.mk (Am.look [(1, T.v (V.bool x1)), (5, T.v (V.ptr (some (oid, 0))))]) (Am.look []) H')) →
    Am.Rec.loop (Am.Run env) (Am.loopAt env 7 6) 7 6
      (St.mk (Am.look [(0, T.v (V.slice q1 sc.length c1)), (1, T.v (V.bool x1)), (5, T.v (V.ptr (some (oid, 0)))), (7, T.v (V.int .i64 (i : Int)))]) (Am.look []) H) Kr Ke
  | 0, i, o, H, hi, ho, hlen, h, k => by
    rw [lp7_6]
    have e : (decide ((i : Int) < (sc.length : Int)) && decide ((i : Int) < 40)) = false := by
      by_cases h1 : (i : Int) < (sc.length : Int)
      · have : ¬ (i : Int) < 40 := by omega
        simp [this]
      · simp [h1]
    rw [e, br_false]
    exact k o H ho hlen h
  | m + 1, i, o, H, hi, ho, hlen, h, k => by
    have hlt : i < sc.length := by omega
    have h80 : i < 40 := by omega
    obtain ⟨s1, s2, s3, s4, s5⟩ := read_ac (h.rd hsc) hlt
    have hac := hok _ (List.getElem_mem hlt)
    generalize sc[i] = a at s3 s5 hac
    have e1 : (i : Int) < (sc.length : Int) := by omega
    have e2 : (i : Int) < 40 := by omega
    have e3 : 0 ≤ (i : Int) := by omega
    have hkd := hac.kd
    rw [lp7_6]
    simp only [e1, e2, decide_true, Bool.and_self, br_true]
    refine joinP_gen (fun S => ∃ H5, S = St.mk (Am.look [(8, T.v (V.int .i64 (a.ho % 4))), (9, T.lp 9 0)]) (Am.look [(9, Loc.cells 33 (a.cm o.r 9).cs)]) H5 ∧ Sat B H5 (ObjA oid o :: L)) ?_ ?_
    · rintro S ⟨H5, rfl, h5⟩
      have hlk : isLK 33 k32 (some (Loc.cells 33 (a.cm o.r 9).cs)) = true := rfl
      have hkt : isKT (KT.lp 9) (some (T.lp 9 0)) = true := rfl
      simp only [joinP_eq, br_true, br_false, req_true, look_cons, look_nil, reduceIte, reduceCtorEq, T_val_v, isKT_k, isKT_agg, isKT_lp, isLK_c, locCells_c, nthV_zero, nthV_one, nthV_two, vals_tuple, aggCells_agg, isAgg_agg, getInt_int, getBool_bool, getStr_str, getPtr_ptr, slPtr_slice, slLen_slice, slCap_slice, isK_int, isK_bool, isK_str, isK_ptr, isK_slice, isTuple_tuple, List.length_cons, List.length_nil, Bool.and_true, Bool.true_and, Bool.or_false, Bool.false_or, Bool.and_self, decide_true, decide_false, Bool.not_true, Bool.not_false, beq_dec, ble_dec, Nat.reduceAdd, Nat.reduceEqDiff, Nat.reduceEqDiff, hlk, hkt, Cm.open_cs]
      refine sp_oDo h5 ho _ (a.cm o.r 9) a.dat (a.cm_dn _ _) (Ac.cm_rd hac _ _) (fun q5 c5 H6 h6 => ?_)
      simp only [joinP_eq, br_true, br_false, req_true, look_cons, look_nil, reduceIte, reduceCtorEq, T_val_v, isKT_k, isKT_agg, isKT_lp, isLK_c, locCells_c, nthV_zero, nthV_one, nthV_two, vals_tuple, aggCells_agg, isAgg_agg, getInt_int, getBool_bool, getStr_str, getPtr_ptr, slPtr_slice, slLen_slice, slCap_slice, isK_int, isK_bool, isK_str, isK_ptr, isK_slice, isTuple_tuple, List.length_cons, List.length_nil, Bool.and_true, Bool.true_and, Bool.or_false, Bool.false_or, Bool.and_self, decide_true, decide_false, Bool.not_true, Bool.not_false, beq_dec, ble_dec, Nat.reduceAdd, Nat.reduceEqDiff, Nat.reduceEqDiff, Rs.fits]
      rw [wrap_succ' (by omega)]
      exact lp_SureA hsc hok m (i + 1) (by omega) (ok_do ho (a.ho % 4) (a.cm o.r 9) (a.cm_dn _ _)) (by rw [len_do]; exact hlen) h6.drop k
    · intro Q hQ
      simp only [e1, e3, s1, s2, s3, Int.toNat_natCast, decide_true, Bool.and_self, req_true, Ac.fits_cs, Ac.open_cs, sp_oResv h, isAgg_agg, aggCells_agg, R.fits_cs, R.open_cs]
      refine ⟨?_, ?_⟩
      all_goals
        refine sp_cmd h hac o.r (n := 9) (by omega) (by omega) (fun H1 h1 => ?_)
        simp only [joinP_eq, br_true, br_false, req_true, look_cons, look_nil, reduceIte, reduceCtorEq, T_val_v, isKT_k, isKT_agg, isKT_lp, isLK_c, locCells_c, nthV_zero, nthV_one, nthV_two, vals_tuple, aggCells_agg, isAgg_agg, getInt_int, getBool_bool, getStr_str, getPtr_ptr, slPtr_slice, slLen_slice, slCap_slice, isK_int, isK_bool, isK_str, isK_ptr, isK_slice, isTuple_tuple, List.length_cons, List.length_nil, Bool.and_true, Bool.true_and, Bool.or_false, Bool.false_or, Bool.and_self, decide_true, decide_false, Bool.not_true, Bool.not_false, beq_dec, ble_dec, Nat.reduceAdd, Nat.reduceEqDiff, Nat.reduceEqDiff, Cm.fits_cs, Cm.open_cs]
        exact hQ _ ⟨H1, rfl, h1⟩

theorem lp_SureB (ho : o.ok) {x1 : Bool} {Kr : Am.St → Prop} {Ke : Nat → Am.St → Prop} :
    ∀ (m i : Nat) {q q2 : Option (Nat × Nat)} {c c2 : Nat} {H : Am.Heap}, i + m = 9 → Sat B H (Rw 9 1 q c ((wasO o i).map st) :: Rw 9 1 q2 c2 ((sursO o i).map st) :: ObjA oid o :: L) →
    (∀ q c q2 c2 H', Sat B H' (Rw 9 1 q c ((wasO o 9).map st) :: Rw 9 1 q2 c2 ((sursO o 9).map st) :: ObjA oid o :: L) →
      Ke 2 (St.mk (Am.look [(1, T.v (V.bool x1)), (5, T.v (V.ptr (some (oid, 0)))), (10, T.v (V.slice q (wasO o 9).length c)), (11, T.v (V.slice q2 (sursO o 9).length c2))]) (Am.look []) H')) →
    Am.Rec.loop (Am.Run env) (Am.loopAt env 7 17) 7 17
      (St.mk (Am.look [(1, T.v (V.bool x1)), (5, T.v (V.ptr (some (oid, 0)))), (10, T.v (V.slice q (wasO o i).length c)), (11, T.v (V.slice q2 (sursO o i).length c2)), (12, T.v (V.int .i64 (i : Int)))]) (Am.look []) H) Kr Ke
  | 0, i, q, q2, c, c2, H, hi, h, k => by
    obtain rfl : i = 9 := by omega
    rw [lp7_17]
    have e1 : ¬ ((9 : Nat) : Int) < 9 := by omega
    rw [decide_eq_false e1, br_false]
    exact k q c q2 c2 H h
  | m + 1, i, q, q2, c, c2, H, hi, h, k => by
    rw [lp7_17]
    have e1 : (i : Int) < 9 := by omega
    rw [decide_eq_true e1, br_true]
    have h1 := h.up 2
    simp only [nthA, outA] at h1
    refine sp_oNow h1 ho i (fun q5 c5 H5 h5 => ?_)
    have hbr := h5.bytRd
    simp only [isK_slice, req_true, slPtr_slice, slLen_slice, hbr.strOk, hbr.strAt]
    have h6 := h5.up 2
    simp only [nthA, outA] at h6
    refine app_str h6 (by rw [wasO_len]; omega) (fun q' c' H' h' => ?_)
    rw [← wasO_succ] at h' ⊢
    have h7 : Sat B H' (ObjA oid o :: Rw 9 1 q' c' ((wasO o (i + 1)).map st) :: Rw 9 1 q2 c2 ((sursO o i).map st) :: BY q5 c5 (nowO o i) :: L) := h'.perm (by repeat (first | exact List.Perm.refl _ | refine pm_step 0 rfl ?_ | refine pm_step 1 rfl ?_ | refine pm_step 2 rfl ?_ | refine pm_step 3 rfl ?_ | refine pm_step 4 rfl ?_ | refine pm_step 5 rfl ?_ | refine pm_step 6 rfl ?_ | refine pm_step 7 rfl ?_ | refine pm_step 8 rfl ?_ | refine pm_step 9 rfl ?_))
    refine sp_oSure h7 ho i (fun q8 c8 H8 h8 => ?_)
    have hbs := h8.bytRd
    simp only [isK_slice, req_true, slPtr_slice, slLen_slice, hbs.strOk, hbs.strAt]
    have h9 := h8.up 3
    simp only [nthA, outA] at h9
    refine app_str h9 (by rw [sursO_len]; omega) (fun q9 c9 H9 h10 => ?_)
    rw [← sursO_succ] at h10 ⊢
    rw [wrap_succ' (by omega)]
    have h11 : Sat B H9 (BY q8 c8 (sureO o i) :: BY q5 c5 (nowO o i) :: Rw 9 1 q' c' ((wasO o (i + 1)).map st) :: Rw 9 1 q9 c9 ((sursO o (i + 1)).map st) :: ObjA oid o :: L) := h10.perm (by repeat (first | exact List.Perm.refl _ | refine pm_step 0 rfl ?_ | refine pm_step 1 rfl ?_ | refine pm_step 2 rfl ?_ | refine pm_step 3 rfl ?_ | refine pm_step 4 rfl ?_ | refine pm_step 5 rfl ?_ | refine pm_step 6 rfl ?_ | refine pm_step 7 rfl ?_ | refine pm_step 8 rfl ?_ | refine pm_step 9 rfl ?_))
    exact lp_SureB ho m (i + 1) (by omega) h11.drop.drop k

theorem lp_SureC {o2 : Ob} (ho2 : o2.ok) {x1 : Bool} {r : R} (hs : ∀ i : Nat, i < 9 → nowO o2 i = sureO o i) (hx : x1 = true → ∀ i : Nat, i < 9 → sureO o i = nowO o i) {q q2 : Option (Nat × Nat)} {c c2 : Nat} {Kr : Am.St → Prop} {Ke : Nat → Am.St → Prop} :
    ∀ (m i : Nat) {H : Am.Heap}, i + m = 9 → Sat B H (Rw 9 1 q c ((wasO o 9).map st) :: Rw 9 1 q2 c2 ((sursO o 9).map st) :: ObjA oid o2 :: L) →
    (∀ H', Sat B H' (ObjA oid o2 :: L) → Ke 4 (St.mk (Am.look [(5, T.v (V.ptr (some (oid, 0)))), (13, T.lp 13 0)]) (Am.look [(13, Loc.cells 38 r.cs)]) H')) →
    Am.Rec.loop (Am.Run env) (Am.loopAt env 7 26) 7 26
      (St.mk (Am.look [(1, T.v (V.bool x1)), (5, T.v (V.ptr (some (oid, 0)))), (10, T.v (V.slice q (wasO o 9).length c)), (11, T.v (V.slice q2 (sursO o 9).length c2)), (13, T.lp 13 0), (14, T.v (V.int .i64 (i : Int)))]) (Am.look [(13, Loc.cells 38 r.cs)]) H) Kr Ke
  | 0, i, H, hi, h, k => by
    have hb : r.cs = c37 (r.k 0) (r.k 1) (r.k 2) (r.k 3) (r.k 4) (r.k 5) (r.k 6) (r.k 7) r.ty r.ho r.ge r.la := rfl
    rw [hb, lp7_26, ← hb]
    have e1 : ¬ (i : Int) < 9 := by omega
    rw [decide_eq_false e1, br_false]
    exact k H h.drop.drop
  | m + 1, i, H, hi, h, k => by
    have hb : r.cs = c37 (r.k 0) (r.k 1) (r.k 2) (r.k 3) (r.k 4) (r.k 5) (r.k 6) (r.k 7) r.ty r.ho r.ge r.la := rfl
    have e1 : (i : Int) < 9 := by omega
    have e2 : 0 ≤ (i : Int) := by omega
    have hwl := wasO_len o 9
    have hsl := sursO_len o 9
    have e3 : (i : Int) < ((wasO o 9).length : Int) := by rw [hwl]; omega
    have e4 : (i : Int) < ((sursO o 9).length : Int) := by rw [hsl]; omega
    have hi9 : i < (wasO o 9).length := by rw [hwl]; omega
    have hj9 : i < (sursO o 9).length := by rw [hsl]; omega
    obtain ⟨s1, s2, s3⟩ := st_facts h.rwRd hi9
    have hup := h.up 1
    simp only [nthA, outA] at hup
    obtain ⟨t1, t2, t3⟩ := st_facts hup.rwRd hj9
    rw [wasO_at] at s3
    rw [sursO_at] at t3
    rw [hb, lp7_26, ← hb]
    rw [decide_eq_true e1, br_true]
    refine joinP_gen (fun S => ∃ H5, S = St.mk (Am.look [(96, T.v (V.bool false))]) (Am.look []) H5 ∧ Sat B H5 (Rw 9 1 q c ((wasO o 9).map st) :: Rw 9 1 q2 c2 ((sursO o 9).map st) :: ObjA oid o2 :: L)) ?_ ?_
    · rintro S ⟨H5, rfl, h5⟩
      simp only [joinP_eq, br_true, br_false, req_true, look_cons, look_nil, reduceIte, reduceCtorEq, T_val_v, isKT_k, isKT_agg, isKT_lp, isLK_c, locCells_c, nthV_zero, nthV_one, nthV_two, vals_tuple, aggCells_agg, isAgg_agg, getInt_int, getBool_bool, getStr_str, getPtr_ptr, slPtr_slice, slLen_slice, slCap_slice, isK_int, isK_bool, isK_str, isK_ptr, isK_slice, isTuple_tuple, List.length_cons, List.length_nil, Bool.and_true, Bool.true_and, Bool.or_false, Bool.false_or, Bool.and_self, decide_true, decide_false, Bool.not_true, Bool.not_false, beq_dec, ble_dec, Nat.reduceAdd, Nat.reduceEqDiff, Nat.reduceEqDiff]
      rw [wrap_succ' (by omega)]
      exact lp_SureC ho2 hs hx m (i + 1) (by omega) h5 k
    · intro Q hQ
      simp only [e2, e3, e4, t1, t2, t3, Int.toNat_natCast, decide_true, Bool.and_self, req_true, isK_str, getStr_str]
      have leaf : ∀ {K : V → Am.Heap → Prop}, (∀ q5 c5 H5, RdB H5 q5 (sureO o i) → H5.inb (q.getD (0, 0)).1 ((q.getD (0, 0)).2 + i * 1) 1 = true → H5.cell (q.getD (0, 0)).1 ((q.getD (0, 0)).2 + i * 1) = .str (strOf (nowO o i)) →
          H5.inb (q2.getD (0, 0)).1 ((q2.getD (0, 0)).2 + i * 1) 1 = true → H5.cell (q2.getD (0, 0)).1 ((q2.getD (0, 0)).2 + i * 1) = .str (strOf (sureO o i)) →
          Q (St.mk (Am.look [(96, T.v (V.bool false))]) (Am.look []) H5) → K (.slice q5 (sureO o i).length c5) H5) →
          Am.Rec.call (Am.Run env) 14 [.ptr (some (oid, 0)), .int .i64 (i : Int)] H K := by
        intro K kk
        have h1 := h.up 2
        simp only [nthA, outA] at h1
        refine sp_oNow h1 ho2 i (fun q5 c5 H5 h5 => ?_)
        rw [hs i (by omega)] at h5 ⊢
        have h6 := h5.up 2
        simp only [nthA, outA] at h6
        obtain ⟨u1, u2, u3⟩ := st_facts h6.rwRd hi9
        have h7 := h5.up 3
        simp only [nthA, outA] at h7
        obtain ⟨v1, v2, v3⟩ := st_facts h7.rwRd hj9
        rw [wasO_at] at u3
        rw [sursO_at] at v3
        exact kk q5 c5 H5 h5.bytRd u2 u3 v2 v3 (hQ _ ⟨H5, rfl, h5.drop.perm (by repeat (first | exact List.Perm.refl _ | refine pm_step 0 rfl ?_ | refine pm_step 1 rfl ?_ | refine pm_step 2 rfl ?_ | refine pm_step 3 rfl ?_ | refine pm_step 4 rfl ?_ | refine pm_step 5 rfl ?_ | refine pm_step 6 rfl ?_ | refine pm_step 7 rfl ?_ | refine pm_step 8 rfl ?_ | refine pm_step 9 rfl ?_))⟩)
      refine ⟨leaf (fun q5 c5 H5 hbr u2 u3 v2 v3 hq => ?_), leaf (fun q5 c5 H5 hbr u2 u3 v2 v3 hq => ?_)⟩
      all_goals
        simp only [isK_slice, isK_str, getStr_str, req_true, slPtr_slice, slLen_slice, hbr.strOk, hbr.strAt, u2, u3, v2, v3, s1, Bool.and_self, strEq_of, decide_true, Bool.not_true, Bool.not_false, br_true]
        cases hxx : x1
        · rw [br_false]
          exact hq
        · rw [br_true, hx hxx i (by omega), decide_eq_true rfl]
          exact hq

theorem law_ObjectSure (h0 : Sat H H []) (q : Option (Nat × Nat)) (len cap : Nat) (x1 : Bool) (hs : SlTy env.P H 25 q len cap) :
    Am.Rec.call (Am.Run env) 7 [.slice q len cap, .bool x1] H fun v _ => v = .bool true := by
  obtain ⟨sc, rfl, hsc, hok⟩ := script_in hs
  rw [eq7]
  refine sp_awake h0 (fun H1 h1 => ?_)
  simp only [joinP_eq, br_true, br_false, req_true, look_cons, look_nil, reduceIte, reduceCtorEq, T_val_v, isKT_k, isKT_agg, isKT_lp, isLK_c, locCells_c, nthV_zero, nthV_one, nthV_two, vals_tuple, aggCells_agg, isAgg_agg, getInt_int, getBool_bool, getStr_str, getPtr_ptr, slPtr_slice, slLen_slice, slCap_slice, isK_int, isK_bool, isK_str, isK_ptr, isK_slice, isTuple_tuple, List.length_cons, List.length_nil, Bool.and_true, Bool.true_and, Bool.or_false, Bool.false_or, Bool.and_self, decide_true, decide_false, Bool.not_true, Bool.not_false, beq_dec, ble_dec, Nat.reduceAdd, Nat.reduceEqDiff, Nat.reduceEqDiff, -joinP_eq]
  refine sp_oNew h1 (by omega) (by omega) (fun oid H2 h2 => ?_)
  simp only [joinP_eq, br_true, br_false, req_true, look_cons, look_nil, reduceIte, reduceCtorEq, T_val_v, isKT_k, isKT_agg, isKT_lp, isLK_c, locCells_c, nthV_zero, nthV_one, nthV_two, vals_tuple, aggCells_agg, isAgg_agg, getInt_int, getBool_bool, getStr_str, getPtr_ptr, slPtr_slice, slLen_slice, slCap_slice, isK_int, isK_bool, isK_str, isK_ptr, isK_slice, isTuple_tuple, List.length_cons, List.length_nil, Bool.and_true, Bool.true_and, Bool.or_false, Bool.false_or, Bool.and_self, decide_true, decide_false, Bool.not_true, Bool.not_false, beq_dec, ble_dec, Nat.reduceAdd, Nat.reduceEqDiff, Nat.reduceEqDiff, -joinP_eq]
  refine lp_SureA hsc hok (min sc.length 40) 0 (by omega) (ok_new (by decide) (by decide)) (by simp [newO]) h2 (fun o H4 ho hl h4 => ?_)
  simp only [look_cons, look_nil, reduceIte, isKT_k, isK_bool, isK_ptr, Bool.and_self, Bool.or_false, req_true, T_val_v, getBool_bool, getPtr_ptr, Nat.reduceEqDiff, beq_dec, decide_true, br_true]
  refine joinP_gen (fun S => ∃ (o1 : Ob) (H5 : Am.Heap), S = St.mk (Am.look []) (Am.look []) H5 ∧ o1.ok ∧ o1.su.length = 9 ∧ (x1 = true → o1.ps = []) ∧ Sat H H5 (ObjA oid o1 :: [])) ?_ ?_
  · rintro S ⟨o1, H5, rfl, ho1, hl1, hx1, h5⟩
    refine lp_SureB ho1 9 0 (by omega) ((h5.rwNil 9 1).rwNil 9 1) (fun qa ca qb cb H6 h6 => ?_)
    have h7 := h6.up 2
    simp only [nthA, outA] at h7
    simp only [joinP_eq, br_true, br_false, req_true, look_cons, look_nil, reduceIte, reduceCtorEq, T_val_v, isKT_k, isKT_agg, isKT_lp, isLK_c, locCells_c, nthV_zero, nthV_one, nthV_two, vals_tuple, aggCells_agg, isAgg_agg, getInt_int, getBool_bool, getStr_str, getPtr_ptr, slPtr_slice, slLen_slice, slCap_slice, isK_int, isK_bool, isK_str, isK_ptr, isK_slice, isTuple_tuple, List.length_cons, List.length_nil, Bool.and_true, Bool.true_and, Bool.or_false, Bool.false_or, Bool.and_self, decide_true, decide_false, Bool.not_true, Bool.not_false, beq_dec, ble_dec, Nat.reduceAdd, Nat.reduceEqDiff, Nat.reduceEqDiff, sp_oResv h7, R.fits_cs, R.open_cs]
    refine sp_oFall h7 false (fun H8 h8 => ?_)
    have hs' : ∀ i : Nat, i < 9 → nowO (fallO o1 false) i = sureO o1 i := by
      intro i hi
      have e1 : 0 ≤ (i : Int) ∧ (i : Int) < (o1.su.length : Int) := by omega
      unfold nowO sureO fallO
      simp only [e1, and_self, if_true]
      rfl
    have hx' : x1 = true → ∀ i : Nat, i < 9 → sureO o1 i = nowO o1 i := by
      intro hx i hi
      have e1 : 0 ≤ (i : Int) ∧ (i : Int) < (o1.su.length : Int) := by omega
      unfold nowO sureO
      rw [hx1 hx]
      simp only [e1, and_self, if_true]
      rfl
    have h9 : Sat H H8 (Rw 9 1 qa ca ((wasO o1 9).map st) :: Rw 9 1 qb cb ((sursO o1 9).map st) :: ObjA oid (fallO o1 false) :: []) := h8.perm (by repeat (first | exact List.Perm.refl _ | refine pm_step 0 rfl ?_ | refine pm_step 1 rfl ?_ | refine pm_step 2 rfl ?_ | refine pm_step 3 rfl ?_ | refine pm_step 4 rfl ?_ | refine pm_step 5 rfl ?_ | refine pm_step 6 rfl ?_ | refine pm_step 7 rfl ?_ | refine pm_step 8 rfl ?_ | refine pm_step 9 rfl ?_))
    refine lp_SureC (ok_fall ho1 false) hs' hx' 9 0 (by omega) h9 (fun H10 h10 => ?_)
    have hlk : isLK 38 k37 (some (Loc.cells 38 o1.r.cs)) = true := rfl
    have hkt : isKT (KT.lp 13) (some (T.lp 13 0)) = true := rfl
    have hr : (fallO o1 false).r = o1.r := rfl
    have hp : (fallO o1 false).ps.length = 0 := rfl
    simp only [joinP_eq, br_true, br_false, req_true, look_cons, look_nil, reduceIte, reduceCtorEq, T_val_v, isKT_k, isKT_agg, isKT_lp, isLK_c, locCells_c, nthV_zero, nthV_one, nthV_two, vals_tuple, aggCells_agg, isAgg_agg, getInt_int, getBool_bool, getStr_str, getPtr_ptr, slPtr_slice, slLen_slice, slCap_slice, isK_int, isK_bool, isK_str, isK_ptr, isK_slice, isTuple_tuple, List.length_cons, List.length_nil, Bool.and_true, Bool.true_and, Bool.or_false, Bool.false_or, Bool.and_self, decide_true, decide_false, Bool.not_true, Bool.not_false, beq_dec, ble_dec, Nat.reduceAdd, Nat.reduceEqDiff, Nat.reduceEqDiff, hlk, hkt, sp_oResv h10, R.fits_cs, R.open_cs, hr, R.eq_self, sp_oWaits h10, hp, Int.natCast_zero, Int.ofNat_zero]
  · intro Q hQ
    cases hx : x1
    · rw [br_false]
      exact hQ _ ⟨o, H4, rfl, ho, hl, (fun h => absurd (hx.symm.trans h) (by decide)), h4⟩
    · rw [br_true]
      refine sp_oSettle h4 ho (fun H5 h5 => ?_)
      exact hQ _ ⟨flushO o, H5, rfl, ok_flush ho, by unfold flushO; rw [flushS_len]; exact hl, fun _ => rfl, h5⟩

end
end Go.Proofs.Ytmionmlellimoaa
