/- Laws of layer 14. -/
import Derived.Test.YtmionmlellimoaaObjL
namespace Go.Proofs.Ytmionmlellimoaa
open Go.Am
set_option maxRecDepth 100000
set_option linter.unusedSimpArgs false
set_option linter.unusedVariables false
set_option linter.unusedSectionVars false

theorem u8_range {y : Int} (h : IntKind.u8.min ≤ y ∧ y ≤ IntKind.u8.max) : 0 ≤ y ∧ y ≤ 255 := by
  simpa [IntKind.min, IntKind.max, IntKind.bits, IntKind.signed] using h
theorem u32_range {y : Int} (h : IntKind.u32.min ≤ y ∧ y ≤ IntKind.u32.max) : 0 ≤ y ∧ y ≤ 4294967295 := by
  simpa [IntKind.min, IntKind.max, IntKind.bits, IntKind.signed] using h
theorem i64_range {y : Int} (h : IntKind.i64.min ≤ y ∧ y ≤ IntKind.i64.max) : -9223372036854775808 ≤ y ∧ y ≤ 9223372036854775807 := by
  simpa [IntKind.min, IntKind.max, IntKind.bits, IntKind.signed] using h
theorem el_u8 : env.P.underlying 5 = some (.int .u8) := Try.underlying5
theorem cells_u8 : env.P.cellsOf 5 = 1 := by kernel_rfl
theorem cells_int : env.P.cellsOf 3 = 1 := by kernel_rfl
theorem cells_u32 : env.P.cellsOf 31 = 1 := by kernel_rfl
theorem cells_bool : env.P.cellsOf 4 = 1 := by kernel_rfl
theorem cells_bytes : env.P.cellsOf 23 = 1 := by kernel_rfl
theorem cells_Act : env.P.cellsOf 25 = 9 := by kernel_rfl
theorem cells_Cmd : env.P.cellsOf 33 = 8 := by kernel_rfl

theorem act_of {H : Am.Heap} {n : Nat} {cs : List V} (h : tyC env.P H n 25 cs) : ∃ a : Ac, cs = a.cs ∧ a.ok H := by
  obtain ⟨hl, m, hf⟩ := ty_struct (P := env.P) Try.underlying25 h
  rw [cells_Act] at hl
  match cs, hl with
  | [a0, a1, a2, a3, a4, a5, a6, a7, a8], _ =>
    simp only [List.forall_mem_cons, cells_u8, cells_bool, cells_bytes, List.drop_succ_cons, List.drop_zero, List.take_succ_cons, List.take_zero] at hf
    obtain ⟨h0, h1, h2, h3, h4, h5, h6, h7, h8, _⟩ := hf
    obtain ⟨y0, rfl, r0⟩ := ty_int (P := env.P) Try.underlying5 h0
    obtain ⟨y1, rfl, r1⟩ := ty_int (P := env.P) Try.underlying5 h1
    obtain ⟨y2, rfl, r2⟩ := ty_int (P := env.P) Try.underlying5 h2
    obtain ⟨y3, rfl, r3⟩ := ty_int (P := env.P) Try.underlying5 h3
    obtain ⟨y4, rfl, r4⟩ := ty_int (P := env.P) Try.underlying5 h4
    obtain ⟨y5, rfl, r5⟩ := ty_int (P := env.P) Try.underlying5 h5
    obtain ⟨y6, rfl⟩ := ty_bool (P := env.P) Try.underlying4 h6
    obtain ⟨y7, rfl⟩ := ty_bool (P := env.P) Try.underlying4 h7
    obtain ⟨q, len, cap, rfl, hs⟩ := ty_slice (P := env.P) Try.underlying23 (Nat.le_of_ble_eq_true (by kernel_rfl)) h8
    obtain ⟨bs, rfl, hr, _, _⟩ := bytes_in el_u8 cells_u8 hs
    exact ⟨⟨y0, y1, y2, y3, y4, y5, y6, y7, q, cap, bs⟩, rfl, u8_range r0, u8_range r1, u8_range r2, u8_range r3, u8_range r4, u8_range r5, hr⟩

theorem Ac.fits_cs (a : Ac) : Am.fits k24 a.cs = true := rfl
theorem Ac.open_cs (a : Ac) : o24 a.cs = a.cs := rfl

theorem cmd_of {H : Am.Heap} {n : Nat} {cs : List V} (h : tyC env.P H n 33 cs) : ∃ c : Cm, cs = c.cs ∧ True := by
  obtain ⟨hl, m, hf⟩ := ty_struct (P := env.P) Try.underlying33 h
  rw [cells_Cmd] at hl
  match cs, hl with
  | [a0, a1, a2, a3, a4, a5, a6, a7], _ =>
    simp only [List.forall_mem_cons, cells_u8, cells_bool, cells_int, cells_u32, cells_bytes, List.drop_succ_cons, List.drop_zero, List.take_succ_cons, List.take_zero] at hf
    obtain ⟨h0, h1, h2, h3, h4, h5, h6, h7, _⟩ := hf
    obtain ⟨y0, rfl, r0⟩ := ty_int (P := env.P) Try.underlying5 h0
    obtain ⟨y1, rfl, r1⟩ := ty_int (P := env.P) Try.underlying3 h1
    obtain ⟨q, len, cap, rfl, r2⟩ := ty_slice (P := env.P) Try.underlying23 (Nat.le_of_ble_eq_true (by kernel_rfl)) h2
    obtain ⟨y3, rfl⟩ := ty_bool (P := env.P) Try.underlying4 h3
    obtain ⟨y4, rfl, r4⟩ := ty_int (P := env.P) Try.underlying31 h4
    obtain ⟨y5, rfl, r5⟩ := ty_int (P := env.P) Try.underlying31 h5
    obtain ⟨y6, rfl, r6⟩ := ty_int (P := env.P) Try.underlying5 h6
    obtain ⟨y7, rfl⟩ := ty_bool (P := env.P) Try.underlying4 h7
    exact ⟨⟨y0, y1, q, len, cap, y3, y4, y5, y6, y7⟩, rfl, trivial⟩

theorem script_in {H : Am.Heap} {q : Option (Nat × Nat)} {len cap : Nat} (h : SlTy env.P H 25 q len cap) : ∃ sc : List Ac, sc.length = len ∧ Rd H q (sc.map Ac.cs).flatten ∧ ∀ a ∈ sc, a.ok H := by
  obtain ⟨css, m, h1, h2, h3, _, _⟩ := rows_in cells_Act h
  have key : ∀ css : List (List V), (∀ c ∈ css, c.length = 9 ∧ tyC env.P H m 25 c) → ∃ sc : List Ac, sc.map Ac.cs = css ∧ ∀ a ∈ sc, a.ok H := by
    intro css
    induction css with
    | nil => exact fun _ => ⟨[], rfl, fun a h => by cases h⟩
    | cons c css ih =>
      intro h
      obtain ⟨sc, e1, e2⟩ := ih (fun x hx => h x (List.mem_cons_of_mem _ hx))
      obtain ⟨a, e3, e4⟩ := act_of (h c (List.mem_cons_self ..)).2
      refine ⟨a :: sc, by rw [List.map_cons, e1, e3], fun x hx => ?_⟩
      rcases List.mem_cons.1 hx with rfl | hx
      · exact e4
      · exact e2 x hx
  obtain ⟨sc, e1, e2⟩ := key css h3
  exact ⟨sc, by rw [← h1, ← e1, List.length_map], by rw [e1]; exact h2, e2⟩

theorem ac_uni (sc : List Ac) : Uni 9 (sc.map Ac.cs) := by
  intro c hc
  obtain ⟨a, _, rfl⟩ := List.mem_map.1 hc
  exact ⟨rfl, fits_one a.fits_cs⟩

theorem read_ac {H : Am.Heap} {q : Option (Nat × Nat)} {sc : List Ac} (hr : Rd H q (sc.map Ac.cs).flatten) {i : Nat} (hi : i < sc.length) :
    q.isSome = true ∧ H.inb (q.getD (0, 0)).1 ((q.getD (0, 0)).2 + i * 9) 9 = true ∧ H.sub (q.getD (0, 0)).1 ((q.getD (0, 0)).2 + i * 9) 9 = sc[i].cs ∧
    H.inb (q.getD (0, 0)).1 ((q.getD (0, 0)).2 + i * 9 + 1) 1 = true ∧ H.cell (q.getD (0, 0)).1 ((q.getD (0, 0)).2 + i * 9 + 1) = .int .u8 sc[i].kd := by
  obtain ⟨a, b, c⟩ := rd_at hr (ac_uni sc) (by omega) (i := i) (by simpa using hi)
  obtain ⟨_, d, e⟩ := rd_cell hr (ac_uni sc) (i := i) (k := 1) (by simpa using hi) (by omega)
  rw [List.getElem_map] at c e
  exact ⟨a, b, c, d, e⟩

theorem len_put' (o : Ob) (p : Pg) (sure : Bool) : (putO o p sure).su.length = o.su.length := by
  unfold putO
  split
  · simp
  · split
    · exact flushS_len _ _
    · rfl

theorem len_do (o : Ob) (h : Int) (c : Cm) (dat : List UInt8) : (doO o h c dat).1.su.length = o.su.length := by
  unfold doO
  split
  · rfl
  · split
    · rfl
    · split
      · rfl
      · split
        · exact len_put' _ _ _
        · split
          · exact len_put' _ _ _
          · split
            · exact flushS_len _ _
            · split <;> rfl

section
variable {B : Am.Heap} {L : List Ast} {H : Am.Heap} {K : V → Am.Heap → Prop} {oid mid : Nat} {o : Ob} {n : Nat}

theorem lp_Plays {q1 : Option (Nat × Nat)} {c1 : Nat} {sc : List Ac} (hsc : Rd B q1 (sc.map Ac.cs).flatten) (hok : ∀ a ∈ sc, a.ok B) (hn : 1 ≤ n) (hn2 : n ≤ 65536) {Kr : Am.St → Prop} {Ke : Nat → Am.St → Prop} :
    ∀ (m i : Nat) {o : Ob} {H : Am.Heap}, i + m = min sc.length 80 → o.ok → o.su.length = n → Sat B H (ObjA oid o :: RefA mid o :: L) →
    (∀ H', Ke 0 (St.mk (Am.look [(7, T.v (V.int .i64 0))]) (Am.look []) H')) →
    Am.Rec.loop (Am.Run env) (Am.loopAt env 6 8) 6 8
      (St.mk (Am.look [(1, T.v (V.slice q1 sc.length c1)), (5, T.v (V.int .i64 (n : Int))), (6, T.v (V.ptr (some (oid, 0)))), (7, T.v (V.int .i64 0)), (8, T.v (V.ptr (some (mid, 0)))), (9, T.v (V.int .i64 (i : Int)))]) (Am.look []) H) Kr Ke
  | 0, i, o, H, hi, ho, hlen, h, k => by
    rw [lp6_8]
    have e : (decide ((i : Int) < (sc.length : Int)) && decide ((i : Int) < 80)) = false := by
      by_cases h1 : (i : Int) < (sc.length : Int)
      · have : ¬ (i : Int) < 80 := by omega
        simp [this]
      · simp [h1]
    rw [e, br_false]
    exact k H
  | m + 1, i, o, H, hi, ho, hlen, h, k => by
    have hlt : i < sc.length := by omega
    have h80 : i < 80 := by omega
    obtain ⟨s1, s2, s3, s4, s5⟩ := read_ac (h.rd hsc) hlt
    have hac := hok _ (List.getElem_mem hlt)
    generalize sc[i] = a at s3 s5 hac
    have e1 : (i : Int) < (sc.length : Int) := by omega
    have e2 : (i : Int) < 80 := by omega
    have e3 : 0 ≤ (i : Int) := by omega
    have hkd := hac.kd
    have hm : Int.tmod a.kd 43 = a.kd % 43 := Int.tmod_eq_emod_of_nonneg hkd.1
    rw [lp6_8]
    simp only [e1, e2, e3, s1, s2, s3, s4, s5, Int.toNat_natCast, decide_true, br_true, Bool.and_self, req_true, isK_int, getInt_int, hm, Ac.fits_cs, Ac.open_cs, Option.isSome_some, Option.getD_some]
    refine joinP_gen (fun S => ∃ (o' : Ob) (H5 : Am.Heap), S = St.mk (Am.look []) (Am.look []) H5 ∧ o'.ok ∧ o'.su.length = n ∧ Sat B H5 (ObjA oid o' :: RefA mid o' :: L)) ?_ ?_
    · rintro S ⟨o', H5, rfl, ho', hl', h5⟩
      refine sp_same ho' h5 (fun H6 h6 => ?_)
      simp only [isK_bool, getBool_bool, req_true, Bool.not_true, br_false]
      rw [wrap_succ' (by omega)]
      exact lp_Plays hsc hok hn hn2 m (i + 1) (by omega) ho' hl' h6 k
    · intro Q hQ
      by_cases k40 : a.kd % 43 = 40
      · simp only [k40, decide_true, br_true]
        refine sp_oSettle h ho (fun H1 h1 => ?_)
        refine sp_rSettle h1.swap ho (fun H2 h2 => ?_)
        exact hQ _ ⟨flushO o, H2, rfl, ok_flush ho, by unfold flushO; rw [flushS_len]; exact hlen, h2.swap⟩
      · simp only [k40, decide_false, br_false]
        by_cases k41 : a.kd % 43 > 40
        · simp only [k41, decide_true, br_true]
          refine sp_oFall h _ (fun H1 h1 => ?_)
          refine sp_rFall h1.swap _ (fun H2 h2 => ?_)
          exact hQ _ ⟨_, H2, rfl, ok_fall ho _, hlen, h2.swap⟩
        · simp only [k41, decide_false, br_false]
          obtain ⟨q, c, q2, c2, f1, f2, f3, f4, f5, f6, _⟩ := refA_facts (h.up 1)
          simp only [Nat.zero_add, f5, f6, R.fits_cs, R.open_cs, Bool.and_self, req_true]
          refine sp_cmd h hac o.r (n := (n : Int)) (by omega) (by omega) (fun H1 h1 => ?_)
          simp only [joinP_eq, br_true, br_false, req_true, look_cons, look_nil, reduceIte, reduceCtorEq, T_val_v, isKT_k, isKT_agg, isKT_lp, isLK_c, locCells_c, nthV_zero, nthV_one, nthV_two, vals_tuple, aggCells_agg, isAgg_agg, getInt_int, getBool_bool, getStr_str, getPtr_ptr, slPtr_slice, slLen_slice, slCap_slice, isK_int, isK_bool, isK_str, isK_ptr, isK_slice, isTuple_tuple, List.length_cons, List.length_nil, Bool.and_true, Bool.true_and, Bool.or_false, Bool.false_or, Bool.and_self, decide_true, decide_false, Bool.not_true, Bool.not_false, beq_dec, ble_dec, Nat.reduceAdd, Nat.reduceEqDiff, Nat.reduceEqDiff, Cm.fits_cs, Cm.open_cs]
          have hkk := a.cm_kd o.r n hkd
          refine sp_oDo h1 ho _ (a.cm o.r n) a.dat (a.cm_dn _ _) (Ac.cm_rd hac _ _) (fun q5 c5 H2 h2 => ?_)
          have h3 := h2.up 2
          simp only [nthA, outA] at h3
          simp only [joinP_eq, br_true, br_false, req_true, look_cons, look_nil, reduceIte, reduceCtorEq, T_val_v, isKT_k, isKT_agg, isKT_lp, isLK_c, locCells_c, nthV_zero, nthV_one, nthV_two, vals_tuple, aggCells_agg, isAgg_agg, getInt_int, getBool_bool, getStr_str, getPtr_ptr, slPtr_slice, slLen_slice, slCap_slice, isK_int, isK_bool, isK_str, isK_ptr, isK_slice, isTuple_tuple, List.length_cons, List.length_nil, Bool.and_true, Bool.true_and, Bool.or_false, Bool.false_or, Bool.and_self, decide_true, decide_false, Bool.not_true, Bool.not_false, beq_dec, ble_dec, Nat.reduceAdd, Nat.reduceEqDiff, Nat.reduceEqDiff, Rs.fits, Rs.open]
          refine sp_rDo14 h3 ho _ (a.cm o.r n) hkk.1 a.dat (a.cm_dn _ _) (Ac.cm_rd hac _ _) (fun H4 h4 => ?_)
          have hb := (h4.up 1).bytRd
          simp only [joinP_eq, br_true, br_false, req_true, look_cons, look_nil, reduceIte, reduceCtorEq, T_val_v, isKT_k, isKT_agg, isKT_lp, isLK_c, locCells_c, nthV_zero, nthV_one, nthV_two, vals_tuple, aggCells_agg, isAgg_agg, getInt_int, getBool_bool, getStr_str, getPtr_ptr, slPtr_slice, slLen_slice, slCap_slice, isK_int, isK_bool, isK_str, isK_ptr, isK_slice, isTuple_tuple, List.length_cons, List.length_nil, Bool.and_true, Bool.true_and, Bool.or_false, Bool.false_or, Bool.and_self, decide_true, decide_false, Bool.not_true, Bool.not_false, beq_dec, ble_dec, Nat.reduceAdd, Nat.reduceEqDiff, Nat.reduceEqDiff, R.fits_cs, R.open_cs]
          rw [sp_Same hb]
          simp only [joinP_eq, br_true, br_false, req_true, look_cons, look_nil, reduceIte, reduceCtorEq, T_val_v, isKT_k, isKT_agg, isKT_lp, isLK_c, locCells_c, nthV_zero, nthV_one, nthV_two, vals_tuple, aggCells_agg, isAgg_agg, getInt_int, getBool_bool, getStr_str, getPtr_ptr, slPtr_slice, slLen_slice, slCap_slice, isK_int, isK_bool, isK_str, isK_ptr, isK_slice, isTuple_tuple, List.length_cons, List.length_nil, Bool.and_true, Bool.true_and, Bool.or_false, Bool.false_or, Bool.and_self, decide_true, decide_false, Bool.not_true, Bool.not_false, beq_dec, ble_dec, Nat.reduceAdd, Nat.reduceEqDiff, Nat.reduceEqDiff]
          have h5 := h4.up 2
          simp only [nthA, outA] at h5
          refine hQ _ ⟨(doO o (a.ho % 4) (a.cm o.r n) a.dat).1, H4, rfl, ok_do ho (a.ho % 4) (a.cm o.r n) (a.cm_dn _ _), by rw [len_do]; exact hlen, ?_⟩
          exact (h5.up 2).drop

theorem law_ObjectPlays (h0 : Sat H H []) (x0 : Int) (q : Option (Nat × Nat)) (len cap : Nat) (l0 : 0 ≤ x0) (g0 : x0 ≤ 255) (hs : SlTy env.P H 25 q len cap) :
    Am.Rec.call (Am.Run env) 6 [.int .u8 x0, .slice q len cap] H fun v _ => v = .bool true := by
  obtain ⟨sc, rfl, hsc, hok⟩ := script_in hs
  rw [eq6]
  refine sp_awake h0 (fun H1 h1 => ?_)
  have hm : Int.tmod x0 20 = x0 % 20 := Int.tmod_eq_emod_of_nonneg l0
  have hw : IntKind.i64.wrap (1 + Int.tmod (IntKind.i64.wrap x0) 20) = ((1 + (x0 % 20).toNat : Nat) : Int) := by
    rw [wrap_in (x := x0) (by omega) (by omega), hm, wrap_in (by omega) (by omega)]; omega
  simp only [joinP_eq, br_true, br_false, req_true, look_cons, look_nil, reduceIte, reduceCtorEq, T_val_v, isKT_k, isKT_agg, isKT_lp, isLK_c, locCells_c, nthV_zero, nthV_one, nthV_two, vals_tuple, aggCells_agg, isAgg_agg, getInt_int, getBool_bool, getStr_str, getPtr_ptr, slPtr_slice, slLen_slice, slCap_slice, isK_int, isK_bool, isK_str, isK_ptr, isK_slice, isTuple_tuple, List.length_cons, List.length_nil, Bool.and_true, Bool.true_and, Bool.or_false, Bool.false_or, Bool.and_self, decide_true, decide_false, Bool.not_true, Bool.not_false, beq_dec, ble_dec, Nat.reduceAdd, Nat.reduceEqDiff, Nat.reduceEqDiff, hw]
  have hn : 1 ≤ 1 + (x0 % 20).toNat := by omega
  have hn2 : 1 + (x0 % 20).toNat ≤ 20 := by omega
  generalize 1 + (x0 % 20).toNat = n at hn hn2
  refine sp_oNew h1 (by omega) (by omega) (fun oid H2 h2 => ?_)
  rw [Int.toNat_natCast] at h2
  simp only [joinP_eq, br_true, br_false, req_true, look_cons, look_nil, reduceIte, reduceCtorEq, T_val_v, isKT_k, isKT_agg, isKT_lp, isLK_c, locCells_c, nthV_zero, nthV_one, nthV_two, vals_tuple, aggCells_agg, isAgg_agg, getInt_int, getBool_bool, getStr_str, getPtr_ptr, slPtr_slice, slLen_slice, slCap_slice, isK_int, isK_bool, isK_str, isK_ptr, isK_slice, isTuple_tuple, List.length_cons, List.length_nil, Bool.and_true, Bool.true_and, Bool.or_false, Bool.false_or, Bool.and_self, decide_true, decide_false, Bool.not_true, Bool.not_false, beq_dec, ble_dec, Nat.reduceAdd, Nat.reduceEqDiff, Nat.reduceEqDiff]
  refine sp_rNew h2 hn (by omega) (fun mid H3 h3 => ?_)
  simp only [joinP_eq, br_true, br_false, req_true, look_cons, look_nil, reduceIte, reduceCtorEq, T_val_v, isKT_k, isKT_agg, isKT_lp, isLK_c, locCells_c, nthV_zero, nthV_one, nthV_two, vals_tuple, aggCells_agg, isAgg_agg, getInt_int, getBool_bool, getStr_str, getPtr_ptr, slPtr_slice, slLen_slice, slCap_slice, isK_int, isK_bool, isK_str, isK_ptr, isK_slice, isTuple_tuple, List.length_cons, List.length_nil, Bool.and_true, Bool.true_and, Bool.or_false, Bool.false_or, Bool.and_self, decide_true, decide_false, Bool.not_true, Bool.not_false, beq_dec, ble_dec, Nat.reduceAdd, Nat.reduceEqDiff, Nat.reduceEqDiff]
  refine lp_Plays hsc hok hn (by omega) (min sc.length 80) 0 (by omega) (ok_new hn (by omega)) (by simp [newO]) h3.swap (fun H4 => ?_)
  simp only [joinP_eq, br_true, br_false, req_true, look_cons, look_nil, reduceIte, reduceCtorEq, T_val_v, isKT_k, isKT_agg, isKT_lp, isLK_c, locCells_c, nthV_zero, nthV_one, nthV_two, vals_tuple, aggCells_agg, isAgg_agg, getInt_int, getBool_bool, getStr_str, getPtr_ptr, slPtr_slice, slLen_slice, slCap_slice, isK_int, isK_bool, isK_str, isK_ptr, isK_slice, isTuple_tuple, List.length_cons, List.length_nil, Bool.and_true, Bool.true_and, Bool.or_false, Bool.false_or, Bool.and_self, decide_true, decide_false, Bool.not_true, Bool.not_false, beq_dec, ble_dec, Nat.reduceAdd, Nat.reduceEqDiff, Nat.reduceEqDiff]

theorem lp_Conflicts {q1 : Option (Nat × Nat)} {c1 : Nat} {sc : List Ac} (hsc : Rd B q1 (sc.map Ac.cs).flatten) (hok : ∀ a ∈ sc, a.ok B) {x1 : Int} {b : Ac} {Kr : Am.St → Prop} {Ke : Nat → Am.St → Prop} :
    ∀ (m i : Nat) {o : Ob} {H : Am.Heap}, i + m = min sc.length 40 → o.ok → o.su.length = 9 → Sat B H (ObjA oid o :: RefA mid o :: L) →
    (∀ (o : Ob) H', o.ok → o.su.length = 9 → Sat B H' (ObjA oid o :: RefA mid o :: L) →
      Ke 0 (St.mk (Am.look [(1, T.v (V.int .u8 x1)), (5, T.lp 5 0), (7, T.v (V.ptr (some (oid, 0)))), (9, T.v (V.ptr (some (mid, 0))))]) (Am.look [(5, Loc.cells 25 b.cs)]) H')) →
    Am.Rec.loop (Am.Run env) (Am.loopAt env 4 7) 4 7
      (St.mk (Am.look [(0, T.v (V.slice q1 sc.length c1)), (1, T.v (V.int .u8 x1)), (5, T.lp 5 0), (7, T.v (V.ptr (some (oid, 0)))), (9, T.v (V.ptr (some (mid, 0)))), (10, T.v (V.int .i64 (i : Int)))]) (Am.look [(5, Loc.cells 25 b.cs)]) H) Kr Ke
  | 0, i, o, H, hi, ho, hlen, h, k => by
    unfold Ac.cs
    rw [lp4_7]
    have e : (decide ((i : Int) < (sc.length : Int)) && decide ((i : Int) < 40)) = false := by
      by_cases h1 : (i : Int) < (sc.length : Int)
      · have : ¬ (i : Int) < 40 := by omega
        simp [this]
      · simp [h1]
    rw [e, br_false]
    exact k o H ho hlen h
  | m + 1, i, o, H, hi, ho, hlen, h, k => by
    have hlt : i < sc.length := by omega
    have h80 : i < 40 := by omega
    obtain ⟨s1, s2, s3, s4, s5⟩ := read_ac (h.rd hsc) hlt
    have hac := hok _ (List.getElem_mem hlt)
    generalize sc[i] = a at s3 s5 hac
    have e1 : (i : Int) < (sc.length : Int) := by omega
    have e2 : (i : Int) < 40 := by omega
    have e3 : 0 ≤ (i : Int) := by omega
    have hkd := hac.kd
    have hb : b.cs = c24 b.ho b.kd b.lb b.ky b.nw b.ty b.su b.ow b.q b.d.length b.c := rfl
    rw [hb, lp4_7]
    obtain ⟨q, c, q2, c2, f1, f2, f3, f4, f5, f6, _⟩ := refA_facts (h.up 1)
    simp only [e1, e2, e3, s1, s2, s3, Int.toNat_natCast, decide_true, br_true, Bool.and_self, req_true, Ac.fits_cs, Ac.open_cs, Option.isSome_some, Option.getD_some, Nat.zero_add, f5, f6, R.fits_cs, R.open_cs]
    refine sp_cmd h hac o.r (n := 9) (by omega) (by omega) (fun H1 h1 => ?_)
    simp only [joinP_eq, br_true, br_false, req_true, look_cons, look_nil, reduceIte, reduceCtorEq, T_val_v, isKT_k, isKT_agg, isKT_lp, isLK_c, locCells_c, nthV_zero, nthV_one, nthV_two, vals_tuple, aggCells_agg, isAgg_agg, getInt_int, getBool_bool, getStr_str, getPtr_ptr, slPtr_slice, slLen_slice, slCap_slice, isK_int, isK_bool, isK_str, isK_ptr, isK_slice, isTuple_tuple, List.length_cons, List.length_nil, Bool.and_true, Bool.true_and, Bool.or_false, Bool.false_or, Bool.and_self, decide_true, decide_false, Bool.not_true, Bool.not_false, beq_dec, ble_dec, Nat.reduceAdd, Nat.reduceEqDiff, Nat.reduceEqDiff, Cm.fits_cs, Cm.open_cs]
    have hkk := a.cm_kd o.r 9 hkd
    refine sp_oDo h1 ho _ (a.cm o.r 9) a.dat (a.cm_dn _ _) (Ac.cm_rd hac _ _) (fun q5 c5 H2 h2 => ?_)
    have h3 := h2.up 2
    simp only [nthA, outA] at h3
    simp only [joinP_eq, br_true, br_false, req_true, look_cons, look_nil, reduceIte, reduceCtorEq, T_val_v, isKT_k, isKT_agg, isKT_lp, isLK_c, locCells_c, nthV_zero, nthV_one, nthV_two, vals_tuple, aggCells_agg, isAgg_agg, getInt_int, getBool_bool, getStr_str, getPtr_ptr, slPtr_slice, slLen_slice, slCap_slice, isK_int, isK_bool, isK_str, isK_ptr, isK_slice, isTuple_tuple, List.length_cons, List.length_nil, Bool.and_true, Bool.true_and, Bool.or_false, Bool.false_or, Bool.and_self, decide_true, decide_false, Bool.not_true, Bool.not_false, beq_dec, ble_dec, Nat.reduceAdd, Nat.reduceEqDiff, Nat.reduceEqDiff, Rs.fits, Rs.open]
    refine sp_rDo14 h3 ho _ (a.cm o.r 9) hkk.1 a.dat (a.cm_dn _ _) (Ac.cm_rd hac _ _) (fun H4 h4 => ?_)
    simp only [joinP_eq, br_true, br_false, req_true, look_cons, look_nil, reduceIte, reduceCtorEq, T_val_v, isKT_k, isKT_agg, isKT_lp, isLK_c, locCells_c, nthV_zero, nthV_one, nthV_two, vals_tuple, aggCells_agg, isAgg_agg, getInt_int, getBool_bool, getStr_str, getPtr_ptr, slPtr_slice, slLen_slice, slCap_slice, isK_int, isK_bool, isK_str, isK_ptr, isK_slice, isTuple_tuple, List.length_cons, List.length_nil, Bool.and_true, Bool.true_and, Bool.or_false, Bool.false_or, Bool.and_self, decide_true, decide_false, Bool.not_true, Bool.not_false, beq_dec, ble_dec, Nat.reduceAdd, Nat.reduceEqDiff, Nat.reduceEqDiff, R.fits_cs, R.open_cs]
    rw [wrap_succ' (by omega), ← hb]
    have h5 := h4.up 2
    simp only [nthA, outA] at h5
    exact lp_Conflicts hsc hok m (i + 1) (by omega) (ok_do ho (a.ho % 4) (a.cm o.r 9) (a.cm_dn _ _)) (by rw [len_do]; exact hlen) (h5.up 2).drop k

theorem cm_valid {a : Ac} (ha : a.ok B) (r : R) {x : Int} (h0 : 0 ≤ x) (h8 : x < 8) : valid x (a.cm r 9) 9 = true := by
  have hk := a.cm_kd r 9 ha.kd
  have hl := ha.lb
  have h1 : 0 ≤ (a.cm r 9).lba := by show 0 ≤ a.lb % 9; omega
  have h2 : (a.cm r 9).lba < 9 := by show a.lb % 9 < 9; omega
  have h3 : (a.cm r 9).dn ≤ 64 := by rw [a.cm_dn]; unfold Ac.dat; split <;> simp [*]
  unfold valid
  simp [h0, h8, hk.2, h1, h2, h3]

theorem law_ObjectConflicts (h0 : Sat H H []) (q : Option (Nat × Nat)) (len cap : Nat) (x1 : Int) (b : Ac) (hs : SlTy env.P H 25 q len cap) (l1 : 0 ≤ x1) (g1 : x1 ≤ 255) (hb : b.ok H) :
    Am.Rec.call (Am.Run env) 4 [.slice q len cap, .int .u8 x1, .agg b.cs] H fun v _ => v = .bool true := by
  obtain ⟨sc, rfl, hsc, hok⟩ := script_in hs
  have hbc : c24 b.ho b.kd b.lb b.ky b.nw b.ty b.su b.ow b.q b.d.length b.c = b.cs := rfl
  unfold Ac.cs
  rw [eq4, hbc]
  refine sp_awake h0 (fun H1 h1 => ?_)
  simp only [joinP_eq, br_true, br_false, req_true, look_cons, look_nil, reduceIte, reduceCtorEq, T_val_v, isKT_k, isKT_agg, isKT_lp, isLK_c, locCells_c, nthV_zero, nthV_one, nthV_two, vals_tuple, aggCells_agg, isAgg_agg, getInt_int, getBool_bool, getStr_str, getPtr_ptr, slPtr_slice, slLen_slice, slCap_slice, isK_int, isK_bool, isK_str, isK_ptr, isK_slice, isTuple_tuple, List.length_cons, List.length_nil, Bool.and_true, Bool.true_and, Bool.or_false, Bool.false_or, Bool.and_self, decide_true, decide_false, Bool.not_true, Bool.not_false, beq_dec, ble_dec, Nat.reduceAdd, Nat.reduceEqDiff, Nat.reduceEqDiff]
  refine sp_oNew h1 (by omega) (by omega) (fun oid H2 h2 => ?_)
  simp only [joinP_eq, br_true, br_false, req_true, look_cons, look_nil, reduceIte, reduceCtorEq, T_val_v, isKT_k, isKT_agg, isKT_lp, isLK_c, locCells_c, nthV_zero, nthV_one, nthV_two, vals_tuple, aggCells_agg, isAgg_agg, getInt_int, getBool_bool, getStr_str, getPtr_ptr, slPtr_slice, slLen_slice, slCap_slice, isK_int, isK_bool, isK_str, isK_ptr, isK_slice, isTuple_tuple, List.length_cons, List.length_nil, Bool.and_true, Bool.true_and, Bool.or_false, Bool.false_or, Bool.and_self, decide_true, decide_false, Bool.not_true, Bool.not_false, beq_dec, ble_dec, Nat.reduceAdd, Nat.reduceEqDiff, Nat.reduceEqDiff]
  refine sp_rNew (n := 9) h2 (by omega) (by omega) (fun mid H3 h3 => ?_)
  simp only [joinP_eq, br_true, br_false, req_true, look_cons, look_nil, reduceIte, reduceCtorEq, T_val_v, isKT_k, isKT_agg, isKT_lp, isLK_c, locCells_c, nthV_zero, nthV_one, nthV_two, vals_tuple, aggCells_agg, isAgg_agg, getInt_int, getBool_bool, getStr_str, getPtr_ptr, slPtr_slice, slLen_slice, slCap_slice, isK_int, isK_bool, isK_str, isK_ptr, isK_slice, isTuple_tuple, List.length_cons, List.length_nil, Bool.and_true, Bool.true_and, Bool.or_false, Bool.false_or, Bool.and_self, decide_true, decide_false, Bool.not_true, Bool.not_false, beq_dec, ble_dec, Nat.reduceAdd, Nat.reduceEqDiff, Nat.reduceEqDiff]
  refine lp_Conflicts hsc hok (min sc.length 40) 0 (by omega) (ok_new (by decide) (by decide)) (by simp [newO]) h3.swap (fun o H4 ho hl h4 => ?_)
  obtain ⟨qa, ca, q2, c2, f1, f2, f3, f4, f5, f6, _⟩ := refA_facts (h4.up 1)
  have hlk : isLK 25 k24 (some (Loc.cells 25 b.cs)) = true := rfl
  have hkt : isKT (KT.lp 5) (some (T.lp 5 0)) = true := rfl
  have hm : Int.tmod x1 8 = x1 % 8 := Int.tmod_eq_emod_of_nonneg l1
  have hw : IntKind.i64.wrap (x1 % 8) = x1 % 8 := by rw [wrap_in (by omega) (by omega)]
  simp only [joinP_eq, br_true, br_false, req_true, look_cons, look_nil, reduceIte, reduceCtorEq, T_val_v, isKT_k, isKT_agg, isKT_lp, isLK_c, locCells_c, nthV_zero, nthV_one, nthV_two, vals_tuple, aggCells_agg, isAgg_agg, getInt_int, getBool_bool, getStr_str, getPtr_ptr, slPtr_slice, slLen_slice, slCap_slice, isK_int, isK_bool, isK_str, isK_ptr, isK_slice, isTuple_tuple, List.length_cons, List.length_nil, Bool.and_true, Bool.true_and, Bool.or_false, Bool.false_or, Bool.and_self, decide_true, decide_false, Bool.not_true, Bool.not_false, beq_dec, ble_dec, Nat.reduceAdd, Nat.reduceEqDiff, Nat.reduceEqDiff, hlk, hkt, Option.isSome_some, Option.getD_some, f5, f6, R.fits_cs, R.open_cs, Ac.open_cs, hm, hw]
  refine sp_cmd h4 hb o.r (n := 9) (by omega) (by omega) (fun H5 h5 => ?_)
  simp only [joinP_eq, br_true, br_false, req_true, look_cons, look_nil, reduceIte, reduceCtorEq, T_val_v, isKT_k, isKT_agg, isKT_lp, isLK_c, locCells_c, nthV_zero, nthV_one, nthV_two, vals_tuple, aggCells_agg, isAgg_agg, getInt_int, getBool_bool, getStr_str, getPtr_ptr, slPtr_slice, slLen_slice, slCap_slice, isK_int, isK_bool, isK_str, isK_ptr, isK_slice, isTuple_tuple, List.length_cons, List.length_nil, Bool.and_true, Bool.true_and, Bool.or_false, Bool.false_or, Bool.and_self, decide_true, decide_false, Bool.not_true, Bool.not_false, beq_dec, ble_dec, Nat.reduceAdd, Nat.reduceEqDiff, Nat.reduceEqDiff, Cm.fits_cs, Cm.open_cs, sp_oResv h5, R.fits_cs, R.open_cs, sp_oPermits]
  refine sp_oDo h5 ho _ (b.cm o.r 9) b.dat (b.cm_dn _ _) (Ac.cm_rd hb _ _) (fun q6 c6 H6 h6 => ?_)
  simp only [joinP_eq, br_true, br_false, req_true, look_cons, look_nil, reduceIte, reduceCtorEq, T_val_v, isKT_k, isKT_agg, isKT_lp, isLK_c, locCells_c, nthV_zero, nthV_one, nthV_two, vals_tuple, aggCells_agg, isAgg_agg, getInt_int, getBool_bool, getStr_str, getPtr_ptr, slPtr_slice, slLen_slice, slCap_slice, isK_int, isK_bool, isK_str, isK_ptr, isK_slice, isTuple_tuple, List.length_cons, List.length_nil, Bool.and_true, Bool.true_and, Bool.or_false, Bool.false_or, Bool.and_self, decide_true, decide_false, Bool.not_true, Bool.not_false, beq_dec, ble_dec, Nat.reduceAdd, Nat.reduceEqDiff, Nat.reduceEqDiff, Rs.fits, Rs.n0, Rs.n1]
  cases hmay : may o.r (x1 % 8) (b.cm o.r 9)
  · have hv : valid (x1 % 8) (b.cm o.r 9) o.su.length = true := by rw [hl]; exact cm_valid hb _ (by omega) (by omega)
    have hd : doO o (x1 % 8) (b.cm o.r 9) b.dat = (o, ⟨13, [], R.zero⟩) := by
      unfold doO
      rw [if_neg (by simp [hv]), if_pos hmay]
    rw [hd] at h6 ⊢
    simp only [joinP_eq, br_true, br_false, req_true, look_cons, look_nil, reduceIte, reduceCtorEq, T_val_v, isKT_k, isKT_agg, isKT_lp, isLK_c, locCells_c, nthV_zero, nthV_one, nthV_two, vals_tuple, aggCells_agg, isAgg_agg, getInt_int, getBool_bool, getStr_str, getPtr_ptr, slPtr_slice, slLen_slice, slCap_slice, isK_int, isK_bool, isK_str, isK_ptr, isK_slice, isTuple_tuple, List.length_cons, List.length_nil, Bool.and_true, Bool.true_and, Bool.or_false, Bool.false_or, Bool.and_self, decide_true, decide_false, Bool.not_true, Bool.not_false, beq_dec, ble_dec, Nat.reduceAdd, Nat.reduceEqDiff, Nat.reduceEqDiff, Int.natCast_zero, Int.ofNat_zero]
    refine sp_same ho h6.drop (fun H7 h7 => ?_)
    simp only [joinP_eq, br_true, br_false, req_true, look_cons, look_nil, reduceIte, reduceCtorEq, T_val_v, isKT_k, isKT_agg, isKT_lp, isLK_c, locCells_c, nthV_zero, nthV_one, nthV_two, vals_tuple, aggCells_agg, isAgg_agg, getInt_int, getBool_bool, getStr_str, getPtr_ptr, slPtr_slice, slLen_slice, slCap_slice, isK_int, isK_bool, isK_str, isK_ptr, isK_slice, isTuple_tuple, List.length_cons, List.length_nil, Bool.and_true, Bool.true_and, Bool.or_false, Bool.false_or, Bool.and_self, decide_true, decide_false, Bool.not_true, Bool.not_false, beq_dec, ble_dec, Nat.reduceAdd, Nat.reduceEqDiff, Nat.reduceEqDiff]
  · simp only [joinP_eq, br_true, br_false, req_true, look_cons, look_nil, reduceIte, reduceCtorEq, T_val_v, isKT_k, isKT_agg, isKT_lp, isLK_c, locCells_c, nthV_zero, nthV_one, nthV_two, vals_tuple, aggCells_agg, isAgg_agg, getInt_int, getBool_bool, getStr_str, getPtr_ptr, slPtr_slice, slLen_slice, slCap_slice, isK_int, isK_bool, isK_str, isK_ptr, isK_slice, isTuple_tuple, List.length_cons, List.length_nil, Bool.and_true, Bool.true_and, Bool.or_false, Bool.false_or, Bool.and_self, decide_true, decide_false, Bool.not_true, Bool.not_false, beq_dec, ble_dec, Nat.reduceAdd, Nat.reduceEqDiff, Nat.reduceEqDiff]

theorem sp_oNewBad {x : Int} (h : x < 1 ∨ x > 65536) : Am.Rec.call (Am.Run env) 10 [.int .i64 x] H K = K (.tuple [.ptr none, .int .i64 1]) H := by
  rw [eq10]
  have e : (bif !decide (x < 1) then decide (x > 65536) else true) = true := by
    by_cases h1 : x < 1
    · simp [h1]
    · have : x > 65536 := by omega
      simp [this]
  rw [e, br_true]

theorem law_ObjectErrs (h0 : Sat H H []) (x0 x1 : Int) (c : Cm) (l0 : -9223372036854775808 ≤ x0) (g0 : x0 ≤ 9223372036854775807) (l1 : -9223372036854775808 ≤ x1) (g1 : x1 ≤ 9223372036854775807) (o : True) :
    Am.Rec.call (Am.Run env) 8 [.int .i64 x0, .int .i64 x1, .agg c.cs] H fun v _ => v = .bool true := by
  unfold Cm.cs
  rw [eq8]
  refine sp_awake h0 (fun H1 h1 => ?_)
  simp only [joinP_eq, br_true, br_false, req_true, look_cons, look_nil, reduceIte, reduceCtorEq, T_val_v, isKT_k, isKT_agg, isKT_lp, isLK_c, locCells_c, nthV_zero, nthV_one, nthV_two, vals_tuple, aggCells_agg, isAgg_agg, getInt_int, getBool_bool, getStr_str, getPtr_ptr, slPtr_slice, slLen_slice, slCap_slice, isK_int, isK_bool, isK_str, isK_ptr, isK_slice, isTuple_tuple, List.length_cons, List.length_nil, Bool.and_true, Bool.true_and, Bool.or_false, Bool.false_or, Bool.and_self, decide_true, decide_false, Bool.not_true, Bool.not_false, beq_dec, ble_dec, Nat.reduceAdd, Nat.reduceEqDiff, Nat.reduceEqDiff]
  have fin : ∀ H', (Am.Rec.call (Am.Run env) 22 [.ptr none] H' fun v H' =>
      Am.Rec.call (Am.Run env) 20 [.ptr none, .bool true] H' fun v H' =>
      Am.Rec.call (Am.Run env) 13 [.ptr none, .int .i64 x1, .agg (c32 c.kd c.lba c.dp c.dn c.dc c.su c.ky c.nw c.ty c.la)] H' fun v H' =>
      req (v.isAgg && fits k40 v.aggCells) (br (decide ((nthV v.aggCells 0).getInt = 5))
        (Am.Rec.call (Am.Run env) 14 [.ptr none, .int .i64 x0] H' fun v H' => req (V.isK Kind.slice v)
          (Am.Rec.call (Am.Run env) 25 [.ptr none, .int .i64 x0] H' fun v_1 H' => req (V.isK Kind.slice v_1)
            (Am.Rec.call (Am.Run env) 19 [.ptr none] H' fun v_2 H' => req (V.isK (Kind.int .i64) v_2)
              (br (decide (IntKind.i64.wrap (IntKind.i64.wrap ((v.slLen : Int) + (v_1.slLen : Int)) + v_2.getInt) = 0))
                (Am.Rec.call (Am.Run env) 12 [.ptr none] H' fun v H' => req (v.isAgg && fits k37 v.aggCells)
                  ((V.bool (cellsEq (o37 v.aggCells) (c37 0 0 0 0 0 0 0 0 0 (-1) 0 false))) = V.bool true))
                ((V.bool false) = V.bool true)))))
        ((V.bool false) = V.bool true))) := by
    intro H'
    have e9 : IntKind.i64.wrap (IntKind.i64.wrap (((0 : Nat) : Int) + ((0 : Nat) : Int)) + 0) = 0 := by
      rw [wrap_in (x := (((0 : Nat) : Int) + ((0 : Nat) : Int))) (by omega) (by omega), wrap_in (by omega) (by omega)]; rfl
    have e5 : (⟨fun _ => 0, 0, -1, 0, false⟩ : R) = R.none0 := rfl
    rw [eq22]
    simp only [Option.isNone_none, Bool.not_true, br_false]
    rw [eq20]
    simp only [Option.isNone_none, br_true]
    rw [eq13]
    simp only [Option.isNone_none, br_true, isAgg_agg, aggCells_agg, f40, oc40, n40_0, n40_1, n40_2, n40_3, n40_4, n40_5, n40_6, n40_7, n40_8, n40_9, n40_10, n40_11, n40_12, n40_13, Bool.and_self, req_true, getInt_int, decide_true]
    rw [eq14]
    simp only [mergeR_ite, Option.isNone_none, Bool.not_true, Bool.false_eq_true, if_false, ite_self, req_true, cond_false, br_true, isK_slice]
    rw [eq25]
    simp only [mergeR_ite, Option.isNone_none, Bool.not_true, Bool.false_eq_true, if_false, ite_self, req_true, cond_false, br_true, isK_slice]
    rw [eq19]
    simp only [Option.isNone_none, br_true, isK_int, req_true, getInt_int, slLen_slice, e9, decide_true]
    rw [eq12]
    simp only [Option.isNone_none, br_true, sp_None, e5, isAgg_agg, aggCells_agg, R.fits_cs, R.open_cs, Bool.and_self, req_true, none_cs, R.eq_self]
  by_cases hn : x0 ≤ 65536 ∨ x0 > 1099511627776
  · have e : (bif !decide (x0 ≤ 65536) then decide (x0 > 1099511627776) else true) = true := by
      rcases hn with hn | hn
      · simp [hn]
      · by_cases h : x0 ≤ 65536 <;> simp [h, hn]
    rw [e, br_true]
    by_cases hg : 1 ≤ x0 ∧ x0 ≤ 65536
    · refine sp_oNew h1 hg.1 hg.2 (fun oid H2 h2 => ?_)
      have e1 : x0 ≥ 1 := hg.1
      simp only [joinP_eq, br_true, br_false, req_true, look_cons, look_nil, reduceIte, reduceCtorEq, T_val_v, isKT_k, isKT_agg, isKT_lp, isLK_c, locCells_c, nthV_zero, nthV_one, nthV_two, vals_tuple, aggCells_agg, isAgg_agg, getInt_int, getBool_bool, getStr_str, getPtr_ptr, slPtr_slice, slLen_slice, slCap_slice, isK_int, isK_bool, isK_str, isK_ptr, isK_slice, isTuple_tuple, List.length_cons, List.length_nil, Bool.and_true, Bool.true_and, Bool.or_false, Bool.false_or, Bool.and_self, decide_true, decide_false, Bool.not_true, Bool.not_false, beq_dec, ble_dec, Nat.reduceAdd, Nat.reduceEqDiff, Nat.reduceEqDiff, e1, hg.2, cond_true, cond_false]
      exact fin H2
    · rw [sp_oNewBad (by omega)]
      have e2 : ¬ ((1 : Int) = 0) := by omega
      by_cases e1 : x0 ≥ 1
      · have e3 : ¬ x0 ≤ 65536 := by omega
        simp only [joinP_eq, br_true, br_false, req_true, look_cons, look_nil, reduceIte, reduceCtorEq, T_val_v, isKT_k, isKT_agg, isKT_lp, isLK_c, locCells_c, nthV_zero, nthV_one, nthV_two, vals_tuple, aggCells_agg, isAgg_agg, getInt_int, getBool_bool, getStr_str, getPtr_ptr, slPtr_slice, slLen_slice, slCap_slice, isK_int, isK_bool, isK_str, isK_ptr, isK_slice, isTuple_tuple, List.length_cons, List.length_nil, Bool.and_true, Bool.true_and, Bool.or_false, Bool.false_or, Bool.and_self, decide_true, decide_false, Bool.not_true, Bool.not_false, beq_dec, ble_dec, Nat.reduceAdd, Nat.reduceEqDiff, Nat.reduceEqDiff, e1, e2, e3, cond_true, cond_false]
        exact fin H1
      · simp only [joinP_eq, br_true, br_false, req_true, look_cons, look_nil, reduceIte, reduceCtorEq, T_val_v, isKT_k, isKT_agg, isKT_lp, isLK_c, locCells_c, nthV_zero, nthV_one, nthV_two, vals_tuple, aggCells_agg, isAgg_agg, getInt_int, getBool_bool, getStr_str, getPtr_ptr, slPtr_slice, slLen_slice, slCap_slice, isK_int, isK_bool, isK_str, isK_ptr, isK_slice, isTuple_tuple, List.length_cons, List.length_nil, Bool.and_true, Bool.true_and, Bool.or_false, Bool.false_or, Bool.and_self, decide_true, decide_false, Bool.not_true, Bool.not_false, beq_dec, ble_dec, Nat.reduceAdd, Nat.reduceEqDiff, Nat.reduceEqDiff, e1, e2, cond_true, cond_false]
        exact fin H1
  · have e : (bif !decide (x0 ≤ 65536) then decide (x0 > 1099511627776) else true) = false := by
      have a1 : ¬ x0 ≤ 65536 := fun h => hn (.inl h)
      have a2 : ¬ x0 > 1099511627776 := fun h => hn (.inr h)
      simp [a1, a2]
    rw [e, br_false]
    exact fin H1

end
end Go.Proofs.Ytmionmlellimoaa
