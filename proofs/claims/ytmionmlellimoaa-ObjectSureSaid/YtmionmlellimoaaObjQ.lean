/- Laws of layer 14: other addresses; what is sure. -/
import Derived.Test.YtmionmlellimoaaObjM
namespace Go.Proofs.Ytmionmlellimoaa
open Go.Am
set_option maxRecDepth 100000
set_option linter.unusedSimpArgs false
set_option linter.unusedVariables false
set_option linter.unusedSectionVars false

theorem now_flush {o : Ob} (ho : o.ok) (i : Nat) (hi : i < o.su.length) : nowO (flushO o) i = nowO o i := by
  unfold nowO flushO
  have e1 : 0 ≤ (i : Int) ∧ (i : Int) < (o.su.length : Int) := by omega
  simp only [flushS_len, e1, and_self, if_true, Int.toNat_natCast]
  rw [flushS_at o.ps o.su ho.sort ho.inr i hi]
  rfl

theorem now_put {o : Ob} (ho : o.ok) {p : Pg} (h0 : 0 ≤ p.addr) (h1 : p.addr < o.su.length) (hd : p.data.length ≤ 64) (sure : Bool) (i : Nat) (hi : i < o.su.length) (hne : p.addr ≠ i) : nowO (putO o p sure) i = nowO o i := by
  have hn2 := ho.n2
  have e1 : 0 ≤ (i : Int) ∧ (i : Int) < (o.su.length : Int) := by omega
  have e2 : ¬ (i : Int) = p.addr := fun h => hne h.symm
  have e3 : p.addr.toNat ≠ i := by omega
  unfold putO
  split
  · unfold nowO
    simp only [List.length_set, e1, and_self, if_true, Int.toNat_natCast]
    rw [getP_drop ho.sort, if_neg e2]
    congr 1
    simp [List.getD_eq_getElem?_getD, List.getElem?_set, e3]
  · have hres := put_res ho.le8 h0 (by omega) hd
    split
    · have hz : (putP [] p).2 = 0 := by rw [put_res (by simp) h0 (by omega) hd, if_neg (by simp)]
      unfold nowO
      simp only [flushS_len, e1, and_self, if_true, Int.toNat_natCast]
      rw [getP_put sortNil hz, if_neg e2, flushS_at o.ps o.su ho.sort ho.inr i hi]
      rfl
    · rename_i hne2
      have hz : (putP o.ps p).2 = 0 := by
        rw [hres] at hne2 ⊢
        split
        · rename_i hh; rw [if_pos hh] at hne2; exact absurd rfl hne2
        · rfl
      unfold nowO
      simp only [e1, and_self, if_true, Int.toNat_natCast]
      rw [getP_put ho.sort hz, if_neg e2]

/-- A command changes no other address's data. -/
theorem now_do {o : Ob} (ho : o.ok) (x : Int) (c : Cm) {dat : List UInt8} (hd : c.dn = dat.length) (i : Nat) (hi : i < o.su.length) (hne : ¬ ((c.kd = 1 ∨ c.kd = 2) ∧ c.lba = i)) : nowO (doO o x c dat).1 i = nowO o i := by
  unfold doO
  split
  · rfl
  · rename_i hv
    have hv2 : valid x c o.su.length = true := by simpa using hv
    unfold valid at hv2
    simp only [Bool.and_eq_true, Bool.or_eq_true, Bool.not_eq_true', Bool.or_eq_false_iff, decide_eq_true_eq, decide_eq_false_iff_not] at hv2
    obtain ⟨⟨⟨⟨v1, v2⟩, v3⟩, v4⟩, v5⟩ := hv2
    split
    · rfl
    · split
      · rfl
      · split
        · rename_i k1
          exact now_put ho (by simp only []; omega) (by simp only []; omega) (by simp only []; omega) _ i hi (fun h => hne ⟨.inl k1, h⟩)
        · split
          · rename_i k2
            exact now_put ho (by simp only []; omega) (by simp only []; omega) (by simp) _ i hi (fun h => hne ⟨.inr k2, h⟩)
          · split
            · exact now_flush ho i hi
            · split <;> rfl

theorem el_str : Am.elemOf env 43 = some (9, 1, 16, [V.str (strOf [])]) := by kernel_rfl
theorem sl_str : Am.notInt (Am.kindOf env 43) = true := by kernel_rfl
theorem str_z : OneAll [V.str (strOf [])] := st_fit []

def wasO (o : Ob) (i : Nat) : List (List UInt8) := (List.range i).map fun j => nowO o (j : Nat)
def sursO (o : Ob) (i : Nat) : List (List UInt8) := (List.range i).map fun j => sureO o (j : Nat)
theorem wasO_len (o : Ob) (i : Nat) : (wasO o i).length = i := by simp [wasO]
theorem sursO_len (o : Ob) (i : Nat) : (sursO o i).length = i := by simp [sursO]
theorem wasO_succ (o : Ob) (i : Nat) : wasO o (i + 1) = wasO o i ++ [nowO o i] := by simp [wasO, List.range_succ]
theorem sursO_succ (o : Ob) (i : Nat) : sursO o (i + 1) = sursO o i ++ [sureO o i] := by simp [sursO, List.range_succ]
theorem wasO_at (o : Ob) {n i : Nat} (h : i < (wasO o n).length) : (wasO o n)[i] = nowO o i := by simp [wasO]
theorem sursO_at (o : Ob) {n i : Nat} (h : i < (sursO o n).length) : (sursO o n)[i] = sureO o i := by simp [sursO]

section
variable {B : Am.Heap} {L : List Ast} {H : Am.Heap} {K : V → Am.Heap → Prop} {oid mid : Nat} {o : Ob} {n : Nat}

theorem app_str {q : Option (Nat × Nat)} {c : Nat} {l : List (List UInt8)} {b : List UInt8} (h : Sat B H (Rw 9 1 q c (l.map st) :: L)) (hl : l.length ≤ 1000) {K : Option (Nat × Nat) → Nat → Nat → Am.Heap → Prop}
    (k : ∀ q' c' H', Sat B H' (Rw 9 1 q' c' ((l ++ [b]).map st) :: L) → K q' (l ++ [b]).length c' H') :
    Am.appendOp env [43, 43] [.slice q l.length c, .slice (some (H.next, 0)) 1 1] (H.alloc (.cells 9 [V.str (strOf b)] false)) K := by
  have hp := fun K => h.rwPush (t := 43) (u := 43) (K := K) el_str sl_str str_z rfl (by omega) (st_uni l) (e2 := 9) (c := st b) rfl (st_fit b) (by simp; omega)
  rw [List.length_map] at hp
  refine hp K (fun q' c' H' h' => ?_)
  have e : l.map st ++ [st b] = (l ++ [b]).map st := by simp
  rw [e] at h'
  have e2 : l.length + 1 = (l ++ [b]).length := by simp
  rw [e2]
  exact k q' c' H' h'

theorem lp_OthersA {q1 : Option (Nat × Nat)} {c1 : Nat} {sc : List Ac} (hsc : Rd B q1 (sc.map Ac.cs).flatten) (hok : ∀ a ∈ sc, a.ok B) {b : Ac} {Kr : Am.St → Prop} {Ke : Nat → Am.St → Prop} :
    ∀ (m i : Nat) {o : Ob} {H : Am.Heap}, i + m = min sc.length 40 → o.ok → o.su.length = 9 → Sat B H (ObjA oid o :: L) →
    (∀ (o : Ob) H', o.ok → o.su.length = 9 → Sat B H' (ObjA oid o :: L) → Ke 0 (St.mk (Am.look [(3, T.lp 3 0), (5, T.v (V.ptr (some (oid, 0))))]) (Am.look [(3, Loc.cells 25 b.cs)]) H')) →
    Am.Rec.loop (Am.Run env) (Am.loopAt env 3 6) 3 6
      (St.mk (Am.look [(0, T.v (V.slice q1 sc.length c1)), (3, T.lp 3 0), (5, T.v (V.ptr (some (oid, 0)))), (7, T.v (V.int .i64 (i : Int)))]) (Am.look [(3, Loc.cells 25 b.cs)]) H) Kr Ke
  | 0, i, o, H, hi, ho, hlen, h, k => by
    have hb : b.cs = c24 b.ho b.kd b.lb b.ky b.nw b.ty b.su b.ow b.q b.d.length b.c := rfl
    rw [hb, lp3_6, ← hb]
    have e : (decide ((i : Int) < (sc.length : Int)) && decide ((i : Int) < 40)) = false := by
      by_cases h1 : (i : Int) < (sc.length : Int)
      · have : ¬ (i : Int) < 40 := by omega
        simp [this]
      · simp [h1]
    rw [e, br_false]
    exact k o H ho hlen h
  | m + 1, i, o, H, hi, ho, hlen, h, k => by
    have hlt : i < sc.length := by omega
    have h80 : i < 40 := by omega
    obtain ⟨s1, s2, s3, s4, s5⟩ := read_ac (h.rd hsc) hlt
    have hac := hok _ (List.getElem_mem hlt)
    generalize sc[i] = a at s3 s5 hac
    have e1 : (i : Int) < (sc.length : Int) := by omega
    have e2 : (i : Int) < 40 := by omega
    have e3 : 0 ≤ (i : Int) := by omega
    have hkd := hac.kd
    have hb : b.cs = c24 b.ho b.kd b.lb b.ky b.nw b.ty b.su b.ow b.q b.d.length b.c := rfl
    rw [hb, lp3_6, ← hb]
    simp only [e1, e2, decide_true, Bool.and_self, br_true]
    refine joinP_gen (fun S => ∃ H5, S = St.mk (Am.look [(8, T.v (V.int .i64 (a.ho % 4))), (9, T.lp 9 0)]) (Am.look [(9, Loc.cells 33 (a.cm o.r 9).cs)]) H5 ∧ Sat B H5 (ObjA oid o :: L)) ?_ ?_
    · rintro S ⟨H5, rfl, h5⟩
      have hlk : isLK 33 k32 (some (Loc.cells 33 (a.cm o.r 9).cs)) = true := rfl
      have hkt : isKT (KT.lp 9) (some (T.lp 9 0)) = true := rfl
      simp only [joinP_eq, br_true, br_false, req_true, look_cons, look_nil, reduceIte, reduceCtorEq, T_val_v, isKT_k, isKT_agg, isKT_lp, isLK_c, locCells_c, nthV_zero, nthV_one, nthV_two, vals_tuple, aggCells_agg, isAgg_agg, getInt_int, getBool_bool, getStr_str, getPtr_ptr, slPtr_slice, slLen_slice, slCap_slice, isK_int, isK_bool, isK_str, isK_ptr, isK_slice, isTuple_tuple, List.length_cons, List.length_nil, Bool.and_true, Bool.true_and, Bool.or_false, Bool.false_or, Bool.and_self, decide_true, decide_false, Bool.not_true, Bool.not_false, beq_dec, ble_dec, Nat.reduceAdd, Nat.reduceEqDiff, Nat.reduceEqDiff, hlk, hkt, Cm.open_cs]
      refine sp_oDo h5 ho _ (a.cm o.r 9) a.dat (a.cm_dn _ _) (Ac.cm_rd hac _ _) (fun q5 c5 H6 h6 => ?_)
      simp only [joinP_eq, br_true, br_false, req_true, look_cons, look_nil, reduceIte, reduceCtorEq, T_val_v, isKT_k, isKT_agg, isKT_lp, isLK_c, locCells_c, nthV_zero, nthV_one, nthV_two, vals_tuple, aggCells_agg, isAgg_agg, getInt_int, getBool_bool, getStr_str, getPtr_ptr, slPtr_slice, slLen_slice, slCap_slice, isK_int, isK_bool, isK_str, isK_ptr, isK_slice, isTuple_tuple, List.length_cons, List.length_nil, Bool.and_true, Bool.true_and, Bool.or_false, Bool.false_or, Bool.and_self, decide_true, decide_false, Bool.not_true, Bool.not_false, beq_dec, ble_dec, Nat.reduceAdd, Nat.reduceEqDiff, Nat.reduceEqDiff, Rs.fits]
      rw [wrap_succ' (by omega)]
      exact lp_OthersA hsc hok m (i + 1) (by omega) (ok_do ho (a.ho % 4) (a.cm o.r 9) (a.cm_dn _ _)) (by rw [len_do]; exact hlen) h6.drop k
    · intro Q hQ
      simp only [e1, e3, s1, s2, s3, Int.toNat_natCast, decide_true, Bool.and_self, req_true, Ac.fits_cs, Ac.open_cs, sp_oResv h, isAgg_agg, aggCells_agg, R.fits_cs, R.open_cs]
      refine ⟨?_, ?_⟩
      all_goals
        refine sp_cmd h hac o.r (n := 9) (by omega) (by omega) (fun H1 h1 => ?_)
        simp only [joinP_eq, br_true, br_false, req_true, look_cons, look_nil, reduceIte, reduceCtorEq, T_val_v, isKT_k, isKT_agg, isKT_lp, isLK_c, locCells_c, nthV_zero, nthV_one, nthV_two, vals_tuple, aggCells_agg, isAgg_agg, getInt_int, getBool_bool, getStr_str, getPtr_ptr, slPtr_slice, slLen_slice, slCap_slice, isK_int, isK_bool, isK_str, isK_ptr, isK_slice, isTuple_tuple, List.length_cons, List.length_nil, Bool.and_true, Bool.true_and, Bool.or_false, Bool.false_or, Bool.and_self, decide_true, decide_false, Bool.not_true, Bool.not_false, beq_dec, ble_dec, Nat.reduceAdd, Nat.reduceEqDiff, Nat.reduceEqDiff, Cm.fits_cs, Cm.open_cs]
        exact hQ _ ⟨H1, rfl, h1⟩

theorem lp_OthersB (ho : o.ok) {b : Ac} {Kr : Am.St → Prop} {Ke : Nat → Am.St → Prop} :
    ∀ (m i : Nat) {q : Option (Nat × Nat)} {c : Nat} {H : Am.Heap}, i + m = 9 → Sat B H (Rw 9 1 q c ((wasO o i).map st) :: ObjA oid o :: L) →
    (∀ q c H', Sat B H' (Rw 9 1 q c ((wasO o 9).map st) :: ObjA oid o :: L) →
      Ke 2 (St.mk (Am.look [(3, T.lp 3 0), (5, T.v (V.ptr (some (oid, 0)))), (10, T.v (V.slice q (wasO o 9).length c))]) (Am.look [(3, Loc.cells 25 b.cs)]) H')) →
    Am.Rec.loop (Am.Run env) (Am.loopAt env 3 14) 3 14
      (St.mk (Am.look [(3, T.lp 3 0), (5, T.v (V.ptr (some (oid, 0)))), (10, T.v (V.slice q (wasO o i).length c)), (11, T.v (V.int .i64 (i : Int)))]) (Am.look [(3, Loc.cells 25 b.cs)]) H) Kr Ke
  | 0, i, q, c, H, hi, h, k => by
    obtain rfl : i = 9 := by omega
    have hb : b.cs = c24 b.ho b.kd b.lb b.ky b.nw b.ty b.su b.ow b.q b.d.length b.c := rfl
    rw [hb, lp3_14, ← hb]
    have e1 : ¬ ((9 : Nat) : Int) < 9 := by omega
    rw [decide_eq_false e1, br_false]
    exact k q c H h
  | m + 1, i, q, c, H, hi, h, k => by
    have hb : b.cs = c24 b.ho b.kd b.lb b.ky b.nw b.ty b.su b.ow b.q b.d.length b.c := rfl
    rw [hb, lp3_14, ← hb]
    have e1 : (i : Int) < 9 := by omega
    rw [decide_eq_true e1, br_true]
    refine sp_oNow h.swap ho i (fun q5 c5 H5 h5 => ?_)
    have hbr := h5.bytRd
    simp only [isK_slice, req_true, slPtr_slice, slLen_slice, hbr.strOk, hbr.strAt]
    have h6 := h5.up 2
    simp only [nthA, outA] at h6
    refine app_str h6 (by rw [wasO_len]; omega) (fun q' c' H' h' => ?_)
    rw [← wasO_succ] at h' ⊢
    rw [wrap_succ' (by omega)]
    exact lp_OthersB ho m (i + 1) (by omega) (h'.swap.drop.perm (L' := Rw 9 1 q' c' ((wasO o (i + 1)).map st) :: ObjA oid o :: L) (List.Perm.refl _)) k

theorem lp_OthersC {o2 : Ob} (ho2 : o2.ok) (hl2 : o2.su.length = 9) (cm : Cm) (hne : ∀ i : Nat, i < 9 → ¬ ((cm.kd = 1 ∨ cm.kd = 2) ∧ cm.lba = i) → nowO o2 i = nowO o i) {q : Option (Nat × Nat)} {c : Nat} {Kr : Am.St → Prop} {Ke : Nat → Am.St → Prop} :
    ∀ (m i : Nat) {H : Am.Heap}, i + m = 9 → Sat B H (Rw 9 1 q c ((wasO o 9).map st) :: ObjA oid o2 :: L) → (∀ H', Ke 4 (St.mk (Am.look []) (Am.look []) H')) →
    Am.Rec.loop (Am.Run env) (Am.loopAt env 3 22) 3 22
      (St.mk (Am.look [(5, T.v (V.ptr (some (oid, 0)))), (10, T.v (V.slice q (wasO o 9).length c)), (13, T.lp 13 0), (14, T.v (V.int .i64 (i : Int)))]) (Am.look [(13, Loc.cells 33 cm.cs)]) H) Kr Ke
  | 0, i, H, hi, h, k => by
    have hb : cm.cs = c32 cm.kd cm.lba cm.dp cm.dn cm.dc cm.su cm.ky cm.nw cm.ty cm.la := rfl
    rw [hb, lp3_22]
    have e1 : ¬ (i : Int) < 9 := by omega
    rw [decide_eq_false e1, br_false]
    exact k H
  | m + 1, i, H, hi, h, k => by
    have hb : cm.cs = c32 cm.kd cm.lba cm.dp cm.dn cm.dc cm.su cm.ky cm.nw cm.ty cm.la := rfl
    have e1 : (i : Int) < 9 := by omega
    have e2 : 0 ≤ (i : Int) := by omega
    have hwl := wasO_len o 9
    have e3 : (i : Int) < ((wasO o 9).length : Int) := by rw [hwl]; omega
    have hi9 : i < (wasO o 9).length := by rw [hwl]; omega
    obtain ⟨s1, s2, s3⟩ := st_facts h.rwRd hi9
    rw [wasO_at] at s3
    rw [hb, lp3_22, ← hb]
    rw [decide_eq_true e1, br_true]
    refine joinP_gen (fun S => ∃ H5, S = St.mk (Am.look [(98, T.v (V.bool false))]) (Am.look []) H5 ∧ Sat B H5 (Rw 9 1 q c ((wasO o 9).map st) :: ObjA oid o2 :: L)) ?_ ?_
    · rintro S ⟨H5, rfl, h5⟩
      simp only [joinP_eq, br_true, br_false, req_true, look_cons, look_nil, reduceIte, reduceCtorEq, T_val_v, isKT_k, isKT_agg, isKT_lp, isLK_c, locCells_c, nthV_zero, nthV_one, nthV_two, vals_tuple, aggCells_agg, isAgg_agg, getInt_int, getBool_bool, getStr_str, getPtr_ptr, slPtr_slice, slLen_slice, slCap_slice, isK_int, isK_bool, isK_str, isK_ptr, isK_slice, isTuple_tuple, List.length_cons, List.length_nil, Bool.and_true, Bool.true_and, Bool.or_false, Bool.false_or, Bool.and_self, decide_true, decide_false, Bool.not_true, Bool.not_false, beq_dec, ble_dec, Nat.reduceAdd, Nat.reduceEqDiff, Nat.reduceEqDiff]
      rw [wrap_succ' (by omega)]
      exact lp_OthersC ho2 hl2 cm hne m (i + 1) (by omega) h5 k
    · intro Q hQ
      simp only [e2, e3, s1, s2, s3, Int.toNat_natCast, decide_true, Bool.and_self, req_true, isK_str, getStr_str]
      have leaf : ∀ {K : V → Am.Heap → Prop}, (∀ q5 c5 H5, RdB H5 q5 (nowO o2 i) → H5.inb (q.getD (0, 0)).1 ((q.getD (0, 0)).2 + i * 1) 1 = true → H5.cell (q.getD (0, 0)).1 ((q.getD (0, 0)).2 + i * 1) = .str (strOf (nowO o i)) →
          Q (St.mk (Am.look [(98, T.v (V.bool false))]) (Am.look []) H5) → K (.slice q5 (nowO o2 i).length c5) H5) →
          Am.Rec.call (Am.Run env) 14 [.ptr (some (oid, 0)), .int .i64 (i : Int)] H K := by
        intro K kk
        refine sp_oNow h.swap ho2 i (fun q5 c5 H5 h5 => ?_)
        have h6 := h5.up 2
        simp only [nthA, outA] at h6
        obtain ⟨u1, u2, u3⟩ := st_facts h6.rwRd hi9
        rw [wasO_at] at u3
        exact kk q5 c5 H5 h5.bytRd u2 u3 (hQ _ ⟨H5, rfl, h5.drop.swap⟩)
      refine ⟨leaf (fun q5 c5 H5 hbr u2 u3 hq => ?_), leaf (fun q5 c5 H5 hbr u2 u3 hq => ?_)⟩
      all_goals
        simp only [isK_slice, isK_str, getStr_str, req_true, slPtr_slice, slLen_slice, hbr.strOk, hbr.strAt, u2, u3, Bool.and_self, strEq_of]
        by_cases heq : nowO o2 i = nowO o i
        · simp only [heq, decide_true, Bool.not_true, br_false]
          exact hq
        · have hx : (cm.kd = 1 ∨ cm.kd = 2) ∧ cm.lba = i := Classical.byContradiction fun hx => heq (hne i (by omega) hx)
          have hkk : (bif !decide (cm.kd = 1) then decide (cm.kd = 2) else true) = true := by
            rcases hx.1 with h1 | h1
            · simp [h1]
            · simp [h1]
          simp only [heq, decide_false, Bool.not_false, br_true, hkk, hx.2, decide_true, Bool.not_true]
          exact hq

theorem law_ObjectOthers (h0 : Sat H H []) (q : Option (Nat × Nat)) (len cap : Nat) (b : Ac) (hs : SlTy env.P H 25 q len cap) (hb : b.ok H) :
    Am.Rec.call (Am.Run env) 3 [.slice q len cap, .agg b.cs] H fun v _ => v = .bool true := by
  obtain ⟨sc, rfl, hsc, hok⟩ := script_in hs
  have hbc : c24 b.ho b.kd b.lb b.ky b.nw b.ty b.su b.ow b.q b.d.length b.c = b.cs := rfl
  unfold Ac.cs
  rw [eq3, hbc]
  refine sp_awake h0 (fun H1 h1 => ?_)
  simp only [joinP_eq, br_true, br_false, req_true, look_cons, look_nil, reduceIte, reduceCtorEq, T_val_v, isKT_k, isKT_agg, isKT_lp, isLK_c, locCells_c, nthV_zero, nthV_one, nthV_two, vals_tuple, aggCells_agg, isAgg_agg, getInt_int, getBool_bool, getStr_str, getPtr_ptr, slPtr_slice, slLen_slice, slCap_slice, isK_int, isK_bool, isK_str, isK_ptr, isK_slice, isTuple_tuple, List.length_cons, List.length_nil, Bool.and_true, Bool.true_and, Bool.or_false, Bool.false_or, Bool.and_self, decide_true, decide_false, Bool.not_true, Bool.not_false, beq_dec, ble_dec, Nat.reduceAdd, Nat.reduceEqDiff, Nat.reduceEqDiff]
  refine sp_oNew h1 (by omega) (by omega) (fun oid H2 h2 => ?_)
  simp only [joinP_eq, br_true, br_false, req_true, look_cons, look_nil, reduceIte, reduceCtorEq, T_val_v, isKT_k, isKT_agg, isKT_lp, isLK_c, locCells_c, nthV_zero, nthV_one, nthV_two, vals_tuple, aggCells_agg, isAgg_agg, getInt_int, getBool_bool, getStr_str, getPtr_ptr, slPtr_slice, slLen_slice, slCap_slice, isK_int, isK_bool, isK_str, isK_ptr, isK_slice, isTuple_tuple, List.length_cons, List.length_nil, Bool.and_true, Bool.true_and, Bool.or_false, Bool.false_or, Bool.and_self, decide_true, decide_false, Bool.not_true, Bool.not_false, beq_dec, ble_dec, Nat.reduceAdd, Nat.reduceEqDiff, Nat.reduceEqDiff]
  have hlk : isLK 25 k24 (some (Loc.cells 25 b.cs)) = true := rfl
  have hkt : isKT (KT.lp 3) (some (T.lp 3 0)) = true := rfl
  refine lp_OthersA hsc hok (min sc.length 40) 0 (by omega) (ok_new (by decide) (by decide)) (by simp [newO]) h2 (fun o H4 ho hl h4 => ?_)
  simp only [joinP_eq, br_true, br_false, req_true, look_cons, look_nil, reduceIte, reduceCtorEq, T_val_v, isKT_k, isKT_agg, isKT_lp, isLK_c, locCells_c, nthV_zero, nthV_one, nthV_two, vals_tuple, aggCells_agg, isAgg_agg, getInt_int, getBool_bool, getStr_str, getPtr_ptr, slPtr_slice, slLen_slice, slCap_slice, isK_int, isK_bool, isK_str, isK_ptr, isK_slice, isTuple_tuple, List.length_cons, List.length_nil, Bool.and_true, Bool.true_and, Bool.or_false, Bool.false_or, Bool.and_self, decide_true, decide_false, Bool.not_true, Bool.not_false, beq_dec, ble_dec, Nat.reduceAdd, Nat.reduceEqDiff, Nat.reduceEqDiff, hlk, hkt, Ac.open_cs]
  refine lp_OthersB ho 9 0 (by omega) (h4.rwNil 9 1) (fun q5 c5 H5 h5 => ?_)
  simp only [joinP_eq, br_true, br_false, req_true, look_cons, look_nil, reduceIte, reduceCtorEq, T_val_v, isKT_k, isKT_agg, isKT_lp, isLK_c, locCells_c, nthV_zero, nthV_one, nthV_two, vals_tuple, aggCells_agg, isAgg_agg, getInt_int, getBool_bool, getStr_str, getPtr_ptr, slPtr_slice, slLen_slice, slCap_slice, isK_int, isK_bool, isK_str, isK_ptr, isK_slice, isTuple_tuple, List.length_cons, List.length_nil, Bool.and_true, Bool.true_and, Bool.or_false, Bool.false_or, Bool.and_self, decide_true, decide_false, Bool.not_true, Bool.not_false, beq_dec, ble_dec, Nat.reduceAdd, Nat.reduceEqDiff, Nat.reduceEqDiff, hlk, hkt, Ac.open_cs, sp_oResv h5.swap, R.fits_cs, R.open_cs]
  refine sp_cmd h5 hb o.r (n := 9) (by omega) (by omega) (fun H6 h6 => ?_)
  simp only [joinP_eq, br_true, br_false, req_true, look_cons, look_nil, reduceIte, reduceCtorEq, T_val_v, isKT_k, isKT_agg, isKT_lp, isLK_c, locCells_c, nthV_zero, nthV_one, nthV_two, vals_tuple, aggCells_agg, isAgg_agg, getInt_int, getBool_bool, getStr_str, getPtr_ptr, slPtr_slice, slLen_slice, slCap_slice, isK_int, isK_bool, isK_str, isK_ptr, isK_slice, isTuple_tuple, List.length_cons, List.length_nil, Bool.and_true, Bool.true_and, Bool.or_false, Bool.false_or, Bool.and_self, decide_true, decide_false, Bool.not_true, Bool.not_false, beq_dec, ble_dec, Nat.reduceAdd, Nat.reduceEqDiff, Nat.reduceEqDiff, Cm.fits_cs, Cm.open_cs]
  refine sp_oDo h6.swap ho _ (b.cm o.r 9) b.dat (b.cm_dn _ _) (Ac.cm_rd hb _ _) (fun q7 c7 H7 h7 => ?_)
  simp only [joinP_eq, br_true, br_false, req_true, look_cons, look_nil, reduceIte, reduceCtorEq, T_val_v, isKT_k, isKT_agg, isKT_lp, isLK_c, locCells_c, nthV_zero, nthV_one, nthV_two, vals_tuple, aggCells_agg, isAgg_agg, getInt_int, getBool_bool, getStr_str, getPtr_ptr, slPtr_slice, slLen_slice, slCap_slice, isK_int, isK_bool, isK_str, isK_ptr, isK_slice, isTuple_tuple, List.length_cons, List.length_nil, Bool.and_true, Bool.true_and, Bool.or_false, Bool.false_or, Bool.and_self, decide_true, decide_false, Bool.not_true, Bool.not_false, beq_dec, ble_dec, Nat.reduceAdd, Nat.reduceEqDiff, Nat.reduceEqDiff, Rs.fits]
  refine lp_OthersC (ok_do ho (b.ho % 4) (b.cm o.r 9) (b.cm_dn _ _)) (by rw [len_do]; exact hl) (b.cm o.r 9) (fun i hi hne => now_do ho _ _ (b.cm_dn _ _) i (by omega) hne) 9 0 (by omega) h7.drop.swap (fun H8 => ?_)
  simp only [joinP_eq, br_true, br_false, req_true, look_cons, look_nil, reduceIte, reduceCtorEq, T_val_v, isKT_k, isKT_agg, isKT_lp, isLK_c, locCells_c, nthV_zero, nthV_one, nthV_two, vals_tuple, aggCells_agg, isAgg_agg, getInt_int, getBool_bool, getStr_str, getPtr_ptr, slPtr_slice, slLen_slice, slCap_slice, isK_int, isK_bool, isK_str, isK_ptr, isK_slice, isTuple_tuple, List.length_cons, List.length_nil, Bool.and_true, Bool.true_and, Bool.or_false, Bool.false_or, Bool.and_self, decide_true, decide_false, Bool.not_true, Bool.not_false, beq_dec, ble_dec, Nat.reduceAdd, Nat.reduceEqDiff, Nat.reduceEqDiff]

end
end Go.Proofs.Ytmionmlellimoaa
