/- Laws of layer 14: full; what others' data are. -/
import Derived.Test.YtmionmlellimoaaObjM
namespace Go.Proofs.Ytmionmlellimoaa
open Go.Am
set_option maxRecDepth 100000
set_option linter.unusedSimpArgs false
set_option linter.unusedVariables false
set_option linter.unusedSectionVars false

theorem drop_len {ps : List Pg} (a : Int) : ps.length ≤ (dropP ps a).length + 1 := by
  unfold dropP
  split
  · rw [List.length_eraseIdx]; split <;> omega
  · omega

/-- A write that may wait: no fewer wait, or one. -/
theorem wait_do {o : Ob} (ho : o.ok) (x : Int) (c : Cm) (hk : c.kd = 1) (hs : c.su = false) {dat : List UInt8} (hd : c.dn = dat.length) : o.ps.length ≤ (doO o x c dat).1.ps.length ∨ (doO o x c dat).1.ps.length = 1 := by
  unfold doO
  split
  · exact .inl (Nat.le_refl _)
  · rename_i hv
    have hv2 : valid x c o.su.length = true := by simpa using hv
    unfold valid at hv2
    simp only [Bool.and_eq_true, Bool.or_eq_true, Bool.not_eq_true', Bool.or_eq_false_iff, decide_eq_true_eq, decide_eq_false_iff_not] at hv2
    obtain ⟨⟨⟨⟨v1, v2⟩, v3⟩, v4⟩, v5⟩ := hv2
    split
    · exact .inl (Nat.le_refl _)
    · have k0 : ¬ c.kd = 0 := by omega
      simp only [k0, hk, hs, if_true, if_false, reduceIte, Int.reduceEq]
      have hn2 := ho.n2
      have hdn : c.dn ≤ 64 := by omega
      have h0 : 0 ≤ (⟨c.lba, dat, false⟩ : Pg).addr := by show 0 ≤ c.lba; omega
      have h1 : (⟨c.lba, dat, false⟩ : Pg).addr ≤ 65535 := by show c.lba ≤ 65535; omega
      have h2 : (⟨c.lba, dat, false⟩ : Pg).data.length ≤ 64 := by show dat.length ≤ 64; omega
      have hres := put_res ho.le8 h0 h1 h2
      unfold putO
      simp only [Bool.false_eq_true, if_false]
      split
      · right
        have hz : (putP [] (⟨c.lba, dat, false⟩ : Pg)).2 = 0 := by rw [put_res (by simp) h0 h1 h2, if_neg (by simp)]
        have := (put_perm sortNil hz).length_eq
        rw [List.length_cons] at this
        have hd0 : (dropP [] (⟨c.lba, dat, false⟩ : Pg).addr).length = 0 := rfl
        show (putP [] (⟨c.lba, dat, false⟩ : Pg)).1.length = 1
        omega
      · rename_i hne
        left
        have hz : (putP o.ps (⟨c.lba, dat, false⟩ : Pg)).2 = 0 := by
          rw [hres] at hne ⊢
          split
          · rename_i hh; rw [if_pos hh] at hne; exact absurd rfl hne
          · rfl
        have := (put_perm ho.sort hz).length_eq
        rw [List.length_cons] at this
        have := drop_len (ps := o.ps) (⟨c.lba, dat, false⟩ : Pg).addr
        show o.ps.length ≤ (putP o.ps (⟨c.lba, dat, false⟩ : Pg)).1.length
        omega

section
variable {B : Am.Heap} {L : List Ast} {H : Am.Heap} {K : V → Am.Heap → Prop} {oid mid : Nat} {o : Ob} {n : Nat}

theorem lp_Full {q1 : Option (Nat × Nat)} {c1 : Nat} {bs : List UInt8} (hsc : RdB B q1 bs) {Kr : Am.St → Prop} {Ke : Nat → Am.St → Prop} :
    ∀ (m i : Nat) {o : Ob} {H : Am.Heap}, i + m = min bs.length 60 → o.ok → Sat B H (ObjA oid o :: RefA mid o :: L) →
    (∀ (o : Ob) H', o.ok → Sat B H' (ObjA oid o :: RefA mid o :: L) → Ke 0 (St.mk (Am.look [(3, T.v (V.ptr (some (oid, 0)))), (5, T.v (V.ptr (some (mid, 0))))]) (Am.look []) H')) →
    Am.Rec.loop (Am.Run env) (Am.loopAt env 5 7) 5 7
      (St.mk (Am.look [(0, T.v (V.slice q1 bs.length c1)), (3, T.v (V.ptr (some (oid, 0)))), (5, T.v (V.ptr (some (mid, 0)))), (6, T.v (V.int .i64 (i : Int)))]) (Am.look []) H) Kr Ke
  | 0, i, o, H, hi, ho, h, k => by
    rw [lp5_7]
    have e : (decide ((i : Int) < (bs.length : Int)) && decide ((i : Int) < 60)) = false := by
      by_cases h1 : (i : Int) < (bs.length : Int)
      · have : ¬ (i : Int) < 60 := by omega
        simp [this]
      · simp [h1]
    rw [e, br_false]
    exact k o H ho h
  | m + 1, i, o, H, hi, ho, h, k => by
    have hlt : i < bs.length := by omega
    have h60 : i < 60 := by omega
    have hrd := h.rdB hsc
    have hne : bcells bs ≠ [] := by intro e; have := congrArg List.length e; rw [bcells_len, List.length_nil] at this; omega
    have s1 := Rd.some hrd hne
    have s2 := Rd.inb hrd (i := i) (k := 1) (by rw [bcells_len]; omega) hne
    have s3 := Rd.cell hrd (i := i) (by rw [bcells_len]; omega)
    rw [bcells_nth hlt] at s3
    have e1 : (i : Int) < (bs.length : Int) := by omega
    have e2 : (i : Int) < 60 := by omega
    have e3 : 0 ≤ (i : Int) := by omega
    have hb8 : ((bs[i].toNat : Nat) : Int) < 256 := by have := bs[i].toNat_lt; omega
    have hw : IntKind.i64.wrap ((bs[i].toNat : Nat) : Int) = ((bs[i].toNat : Nat) : Int) := by rw [wrap_in (by omega) (by omega)]
    rw [lp5_7]
    simp only [e1, e2, e3, s1, Int.toNat_natCast, Nat.mul_one, s2, s3, decide_true, br_true, Bool.and_self, req_true, isK_int, getInt_int, hw, Cm.fold', wrap_u8_nat]
    have h1 := lit1 h (UInt8.ofNat i)
    have h2 : Sat B (H.alloc (.cells 5 [V.int .u8 ((UInt8.ofNat i).toNat : Int)] false)) (ObjA oid o :: RefA mid o :: BY (some (H.next, 0)) 1 [UInt8.ofNat i] :: L) := h1.perm (by repeat (first | exact List.Perm.refl _ | refine pm_step 0 rfl ?_ | refine pm_step 1 rfl ?_ | refine pm_step 2 rfl ?_ | refine pm_step 3 rfl ?_ | refine pm_step 4 rfl ?_ | refine pm_step 5 rfl ?_ | refine pm_step 6 rfl ?_ | refine pm_step 7 rfl ?_ | refine pm_step 8 rfl ?_ | refine pm_step 9 rfl ?_))
    rw [sp_oWaits h2]
    simp only [isK_int, getInt_int, req_true]
    generalize hc : (⟨1, ((bs[i].toNat : Nat) : Int), some (H.2, 0), 1, 1, false, 0, 0, 0, false⟩ : Cm) = c
    have c1' : c.kd = 1 := by rw [← hc]
    have c2' : c.su = false := by rw [← hc]
    have c3' : c.dn = [UInt8.ofNat i].length := by rw [← hc]; rfl
    have c4' : c.dp = some (H.next, 0) := by rw [← hc]
    have hwd := wait_do ho 0 c c1' c2' c3'
    have hok := ok_do ho 0 c c3'
    generalize H.alloc _ = H1 at h2
    have hr1 : Rds B (RefA mid o :: BY (some (H.next, 0)) 1 [UInt8.ofNat i] :: L) c.dp [UInt8.ofNat i] := by rw [c4']; exact Rds.byt.more _
    refine sp_oDo h2 ho 0 c [UInt8.ofNat i] c3' hr1 (fun q5 c5 H2 h3 => ?_)
    simp only [joinP_eq, br_true, br_false, req_true, look_cons, look_nil, reduceIte, reduceCtorEq, T_val_v, isKT_k, isKT_agg, isKT_lp, isLK_c, locCells_c, nthV_zero, nthV_one, nthV_two, vals_tuple, aggCells_agg, isAgg_agg, getInt_int, getBool_bool, getStr_str, getPtr_ptr, slPtr_slice, slLen_slice, slCap_slice, isK_int, isK_bool, isK_str, isK_ptr, isK_slice, isTuple_tuple, List.length_cons, List.length_nil, Bool.and_true, Bool.true_and, Bool.or_false, Bool.false_or, Bool.and_self, decide_true, decide_false, Bool.not_true, Bool.not_false, beq_dec, ble_dec, Nat.reduceAdd, Nat.reduceEqDiff, Nat.reduceEqDiff, Rs.fits, Rs.open]
    have h4 : Sat B H2 (RefA mid o :: BY (some (H.next, 0)) 1 [UInt8.ofNat i] :: BY q5 c5 (doO o 0 c [UInt8.ofNat i]).2.d :: ObjA oid (doO o 0 c [UInt8.ofNat i]).1 :: L) := h3.perm (by repeat (first | exact List.Perm.refl _ | refine pm_step 0 rfl ?_ | refine pm_step 1 rfl ?_ | refine pm_step 2 rfl ?_ | refine pm_step 3 rfl ?_ | refine pm_step 4 rfl ?_ | refine pm_step 5 rfl ?_ | refine pm_step 6 rfl ?_ | refine pm_step 7 rfl ?_ | refine pm_step 8 rfl ?_ | refine pm_step 9 rfl ?_))
    have hr2 : Rds B (BY (some (H.next, 0)) 1 [UInt8.ofNat i] :: BY q5 c5 (doO o 0 c [UInt8.ofNat i]).2.d :: ObjA oid (doO o 0 c [UInt8.ofNat i]).1 :: L) c.dp [UInt8.ofNat i] := by rw [c4']; exact Rds.byt
    refine sp_rDo14 h4 ho 0 c (by omega) [UInt8.ofNat i] c3' hr2 (fun H5 h5 => ?_)
    generalize hd : doO o 0 c [UInt8.ofNat i] = D at *
    obtain ⟨o', s⟩ := D
    simp only [] at h5 hwd hok ⊢
    have h6 : Sat B H5 (ObjA oid o' :: RefA mid o' :: BY (some (H.next, 0)) 1 [UInt8.ofNat i] :: BY q5 c5 s.d :: L) := h5.perm (by repeat (first | exact List.Perm.refl _ | refine pm_step 0 rfl ?_ | refine pm_step 1 rfl ?_ | refine pm_step 2 rfl ?_ | refine pm_step 3 rfl ?_ | refine pm_step 4 rfl ?_ | refine pm_step 5 rfl ?_ | refine pm_step 6 rfl ?_ | refine pm_step 7 rfl ?_ | refine pm_step 8 rfl ?_ | refine pm_step 9 rfl ?_))
    obtain ⟨qa, ca, q2, c2, f1, f2, f3, f4, f5, f6, _⟩ := refA_facts (h6.up 1)
    have hle := hok.le8
    have hcond : (br (decide ((o'.ps.length : Int) < (o.ps.length : Int))) True True) = (br (decide ((o'.ps.length : Int) < (o.ps.length : Int))) True True) := rfl
    have g8 : ¬ (o'.ps.length : Int) > 8 := by omega
    simp only [isTuple_tuple, vals_tuple, nthV_zero, nthV_one, nthV_two, isK_int, isK_str, isAgg_agg, aggCells_agg, R.fits_cs, Bool.and_self, Bool.or_false, req_true, List.length_cons, List.length_nil, Nat.reduceAdd, beq_dec, decide_true,
      Option.isSome_some, Option.getD_some, Nat.zero_add, sp_oWaits h6, getInt_int, f3, f4, isK_slice, slLen_slice, Bool.not_true, Bool.not_false, br_true, g8, decide_false]
    have h7 := h6.perm (L' := BY (some (H.next, 0)) 1 [UInt8.ofNat i] :: BY q5 c5 s.d :: ObjA oid o' :: RefA mid o' :: L) (by repeat (first | exact List.Perm.refl _ | refine pm_step 0 rfl ?_ | refine pm_step 1 rfl ?_ | refine pm_step 2 rfl ?_ | refine pm_step 3 rfl ?_ | refine pm_step 4 rfl ?_ | refine pm_step 5 rfl ?_ | refine pm_step 6 rfl ?_ | refine pm_step 7 rfl ?_ | refine pm_step 8 rfl ?_ | refine pm_step 9 rfl ?_))
    have next := lp_Full hsc (c1 := c1) (Kr := Kr) (Ke := Ke) m (i + 1) (by omega) hok h7.drop.drop k
    rw [wrap_succ' (by omega)]
    by_cases hlt2 : (o'.ps.length : Int) < (o.ps.length : Int)
    · have h1' : (o'.ps.length : Int) = 1 := by omega
      have h2' : (1 : Int) < (o.ps.length : Int) := by omega
      simp only [h1', h2', decide_true, br_true, Bool.not_true, br_false]
      exact ⟨next, next⟩
    · simp only [hlt2, decide_false, br_false]
      exact ⟨next, next⟩

theorem law_ObjectFull (h0 : Sat H H []) (q : Option (Nat × Nat)) (len cap : Nat) (hs : SlTy env.P H 5 q len cap) :
    Am.Rec.call (Am.Run env) 5 [.slice q len cap] H fun v _ => v = .bool true := by
  obtain ⟨bs, rfl, hr, _, _⟩ := bytes_in el_u8 cells_u8 hs
  rw [eq5]
  refine sp_awake h0 (fun H1 h1 => ?_)
  simp only [joinP_eq, br_true, br_false, req_true, look_cons, look_nil, reduceIte, reduceCtorEq, T_val_v, isKT_k, isKT_agg, isKT_lp, isLK_c, locCells_c, nthV_zero, nthV_one, nthV_two, vals_tuple, aggCells_agg, isAgg_agg, getInt_int, getBool_bool, getStr_str, getPtr_ptr, slPtr_slice, slLen_slice, slCap_slice, isK_int, isK_bool, isK_str, isK_ptr, isK_slice, isTuple_tuple, List.length_cons, List.length_nil, Bool.and_true, Bool.true_and, Bool.or_false, Bool.false_or, Bool.and_self, decide_true, decide_false, Bool.not_true, Bool.not_false, beq_dec, ble_dec, Nat.reduceAdd, Nat.reduceEqDiff, Nat.reduceEqDiff]
  refine sp_oNew h1 (by omega) (by omega) (fun oid H2 h2 => ?_)
  simp only [joinP_eq, br_true, br_false, req_true, look_cons, look_nil, reduceIte, reduceCtorEq, T_val_v, isKT_k, isKT_agg, isKT_lp, isLK_c, locCells_c, nthV_zero, nthV_one, nthV_two, vals_tuple, aggCells_agg, isAgg_agg, getInt_int, getBool_bool, getStr_str, getPtr_ptr, slPtr_slice, slLen_slice, slCap_slice, isK_int, isK_bool, isK_str, isK_ptr, isK_slice, isTuple_tuple, List.length_cons, List.length_nil, Bool.and_true, Bool.true_and, Bool.or_false, Bool.false_or, Bool.and_self, decide_true, decide_false, Bool.not_true, Bool.not_false, beq_dec, ble_dec, Nat.reduceAdd, Nat.reduceEqDiff, Nat.reduceEqDiff]
  refine sp_rNew (n := 256) h2 (by omega) (by omega) (fun mid H3 h3 => ?_)
  simp only [joinP_eq, br_true, br_false, req_true, look_cons, look_nil, reduceIte, reduceCtorEq, T_val_v, isKT_k, isKT_agg, isKT_lp, isLK_c, locCells_c, nthV_zero, nthV_one, nthV_two, vals_tuple, aggCells_agg, isAgg_agg, getInt_int, getBool_bool, getStr_str, getPtr_ptr, slPtr_slice, slLen_slice, slCap_slice, isK_int, isK_bool, isK_str, isK_ptr, isK_slice, isTuple_tuple, List.length_cons, List.length_nil, Bool.and_true, Bool.true_and, Bool.or_false, Bool.false_or, Bool.and_self, decide_true, decide_false, Bool.not_true, Bool.not_false, beq_dec, ble_dec, Nat.reduceAdd, Nat.reduceEqDiff, Nat.reduceEqDiff]
  refine lp_Full hr (min bs.length 60) 0 (by omega) (ok_new (by decide) (by decide)) h3.swap (fun o H4 ho h4 => ?_)
  simp only [joinP_eq, br_true, br_false, req_true, look_cons, look_nil, reduceIte, reduceCtorEq, T_val_v, isKT_k, isKT_agg, isKT_lp, isLK_c, locCells_c, nthV_zero, nthV_one, nthV_two, vals_tuple, aggCells_agg, isAgg_agg, getInt_int, getBool_bool, getStr_str, getPtr_ptr, slPtr_slice, slLen_slice, slCap_slice, isK_int, isK_bool, isK_str, isK_ptr, isK_slice, isTuple_tuple, List.length_cons, List.length_nil, Bool.and_true, Bool.true_and, Bool.or_false, Bool.false_or, Bool.and_self, decide_true, decide_false, Bool.not_true, Bool.not_false, beq_dec, ble_dec, Nat.reduceAdd, Nat.reduceEqDiff, Nat.reduceEqDiff]
  refine sp_oFall h4 false (fun H5 h5 => ?_)
  refine sp_rFall h5.swap false (fun H6 h6 => ?_)
  refine sp_same (ok_fall ho false) h6.swap (fun H7 h7 => ?_)
  simp only [joinP_eq, br_true, br_false, req_true, look_cons, look_nil, reduceIte, reduceCtorEq, T_val_v, isKT_k, isKT_agg, isKT_lp, isLK_c, locCells_c, nthV_zero, nthV_one, nthV_two, vals_tuple, aggCells_agg, isAgg_agg, getInt_int, getBool_bool, getStr_str, getPtr_ptr, slPtr_slice, slLen_slice, slCap_slice, isK_int, isK_bool, isK_str, isK_ptr, isK_slice, isTuple_tuple, List.length_cons, List.length_nil, Bool.and_true, Bool.true_and, Bool.or_false, Bool.false_or, Bool.and_self, decide_true, decide_false, Bool.not_true, Bool.not_false, beq_dec, ble_dec, Nat.reduceAdd, Nat.reduceEqDiff, Nat.reduceEqDiff]

end
end Go.Proofs.Ytmionmlellimoaa
