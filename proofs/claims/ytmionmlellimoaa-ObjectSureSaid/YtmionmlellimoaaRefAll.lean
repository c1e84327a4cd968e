/- The document's objects in memory. -/
import Derived.Test.YtmionmlellimoaaObjAll
namespace Go.Proofs.Ytmionmlellimoaa
open Go.Am
set_option maxRecDepth 100000
set_option linter.unusedSimpArgs false
set_option linter.unusedVariables false
set_option linter.unusedSectionVars false

/-! The document's objects in memory. -/

def wc (w : Int × List UInt8) : List V := c95 w.1 (strOf w.2)
def st (bs : List UInt8) : List V := [.str (strOf bs)]
def mcs (q : Option (Nat × Nat)) (n c : Nat) (q2 : Option (Nat × Nat)) (n2 c2 : Nat) (r : R) : List V := c49 q n c q2 n2 c2 (r.k 0) (r.k 1) (r.k 2) (r.k 3) (r.k 4) (r.k 5) (r.k 6) (r.k 7) r.ty r.ho r.ge r.la

theorem el_wait : Am.elemOf env 48 = some (96, 2, 24, c95 0 (strOf [])) := by kernel_rfl
theorem sl_wait : Am.notInt (Am.kindOf env 48) = true := by kernel_rfl
theorem wait_z : OneAll (c95 0 (strOf [])) := fits_one (f95 0 (strOf []))
theorem wc_fits (w : Int × List UInt8) : Am.fits k95 (wc w) = true := rfl
theorem wc_open (w : Int × List UInt8) : o95 (wc w) = wc w := rfl

theorem wc_uni (l : List (Int × List UInt8)) : Uni 2 (l.map wc) := by
  intro c hc
  obtain ⟨r, _, rfl⟩ := List.mem_map.1 hc
  exact ⟨rfl, fits_one (wc_fits r)⟩

theorem st_uni (l : List (List UInt8)) : Uni 1 (l.map st) := by
  intro c hc
  obtain ⟨r, _, rfl⟩ := List.mem_map.1 hc
  exact ⟨rfl, fun v hv => by rw [st, List.mem_singleton] at hv; subst hv; rfl⟩

/-- The document's object, as it stands. -/
def RefP (id : Nat) (su : List (List UInt8)) (l : List (Int × List UInt8)) (r : R) : Ast :=
  exA fun q => exA fun c => exA fun q2 => exA fun c2 => star (blk id 50 (mcs q su.length c q2 l.length c2 r)) (star (Rw 9 1 q c (su.map st)) (Rw 96 2 q2 c2 (l.map wc)))

section
variable {B : Am.Heap} {L : List Ast} {H : Am.Heap} {K : V → Am.Heap → Prop} {id : Nat} {su : List (List UInt8)} {l : List (Int × List UInt8)} {r : R} {q q2 : Option (Nat × Nat)} {c c2 n n2 : Nat}

theorem Sat.ref (h : Sat B H (RefP id su l r :: L)) : ∃ q c q2 c2, Sat B H (blk id 50 (mcs q su.length c q2 l.length c2 r) :: Rw 9 1 q c (su.map st) :: Rw 96 2 q2 c2 (l.map wc) :: L) := by
  obtain ⟨q, h⟩ := h.ex1
  obtain ⟨c, h⟩ := h.ex1
  obtain ⟨q2, h⟩ := h.ex1
  obtain ⟨c2, h⟩ := h.ex1
  exact ⟨q, c, q2, c2, (h.star.swap.star).perm (by repeat (first | exact List.Perm.refl _ | refine pm_step 0 rfl ?_ | refine pm_step 1 rfl ?_ | refine pm_step 2 rfl ?_ | refine pm_step 3 rfl ?_ | refine pm_step 4 rfl ?_ | refine pm_step 5 rfl ?_ | refine pm_step 6 rfl ?_ | refine pm_step 7 rfl ?_ | refine pm_step 8 rfl ?_ | refine pm_step 9 rfl ?_))⟩

theorem Sat.unref (h : Sat B H (blk id 50 (mcs q su.length c q2 l.length c2 r) :: Rw 9 1 q c (su.map st) :: Rw 96 2 q2 c2 (l.map wc) :: L)) : Sat B H (RefP id su l r :: L) := by
  have h1 : Sat B H (Rw 9 1 q c (su.map st) :: Rw 96 2 q2 c2 (l.map wc) :: blk id 50 (mcs q su.length c q2 l.length c2 r) :: L) := h.perm (by repeat (first | exact List.Perm.refl _ | refine pm_step 0 rfl ?_ | refine pm_step 1 rfl ?_ | refine pm_step 2 rfl ?_ | refine pm_step 3 rfl ?_ | refine pm_step 4 rfl ?_ | refine pm_step 5 rfl ?_ | refine pm_step 6 rfl ?_ | refine pm_step 7 rfl ?_ | refine pm_step 8 rfl ?_ | refine pm_step 9 rfl ?_))
  exact Sat.intro (Sat.intro (Sat.intro (Sat.intro h1.unstar.swap.unstar)))

theorem ref_facts (hg : H.get id = some (.cells 50 (mcs q n c q2 n2 c2 r) false)) :
    H.inb id 0 1 = true ∧ H.cell id 0 = .slice q n c ∧ H.inb id 1 1 = true ∧ H.cell id 1 = .slice q2 n2 c2 ∧ H.inb id 2 12 = true ∧ H.sub id 2 12 = r.cs ∧ H.wr id 1 1 = true ∧ H.wr id 2 12 = true := by
  refine ⟨?_, ?_, ?_, ?_, ?_, ?_, ?_, ?_⟩
  · rw [inb_get hg]; rfl
  · rw [cell_get hg]; rfl
  · rw [inb_get hg]; rfl
  · rw [cell_get hg]; rfl
  · rw [inb_get hg]; rfl
  · rw [sub_get hg]; rfl
  · rw [wr_get hg]; rfl
  · rw [wr_get hg]; rfl

theorem wt_facts (hr : Rd H q (l.map wc).flatten) {i : Nat} (hi : i < l.length) :
    q.isSome = true ∧ H.inb (q.getD (0, 0)).1 ((q.getD (0, 0)).2 + i * 2) 1 = true ∧ H.cell (q.getD (0, 0)).1 ((q.getD (0, 0)).2 + i * 2) = .int .i64 l[i].1 ∧
    H.inb (q.getD (0, 0)).1 ((q.getD (0, 0)).2 + i * 2 + 1) 1 = true ∧ H.cell (q.getD (0, 0)).1 ((q.getD (0, 0)).2 + i * 2 + 1) = .str (strOf l[i].2) ∧
    H.inb (q.getD (0, 0)).1 ((q.getD (0, 0)).2 + i * 2) 2 = true ∧ H.sub (q.getD (0, 0)).1 ((q.getD (0, 0)).2 + i * 2) 2 = wc l[i] := by
  obtain ⟨a, b, c⟩ := rd_cell hr (wc_uni l) (i := i) (k := 0) (by simpa using hi) (by omega)
  obtain ⟨_, d, e⟩ := rd_cell hr (wc_uni l) (i := i) (k := 1) (by simpa using hi) (by omega)
  obtain ⟨_, f, g⟩ := rd_at hr (wc_uni l) (by omega) (i := i) (by simpa using hi)
  rw [Nat.add_zero] at b c
  rw [List.getElem_map] at c e g
  exact ⟨a, b, c, d, e, f, g⟩

theorem st_facts (hr : Rd H q (su.map st).flatten) {i : Nat} (hi : i < su.length) :
    q.isSome = true ∧ H.inb (q.getD (0, 0)).1 ((q.getD (0, 0)).2 + i * 1) 1 = true ∧ H.cell (q.getD (0, 0)).1 ((q.getD (0, 0)).2 + i * 1) = .str (strOf su[i]) := by
  obtain ⟨a, b, c⟩ := rd_cell hr (st_uni su) (i := i) (k := 0) (by simpa using hi) (by omega)
  rw [Nat.add_zero] at b c
  rw [List.getElem_map] at c
  exact ⟨a, b, c⟩

theorem getD_at {i : Nat} (hi : i < su.length) : su.getD i [] = su[i] := by
  rw [List.getD_eq_getElem?_getD, List.getElem?_eq_getElem hi]; rfl

theorem lp_mNow {a : Int} (h0 : 0 ≤ a) (ha : a < su.length) (hl : l.length ≤ 1000) (h : Sat B H (blk id 50 (mcs q su.length c q2 l.length c2 r) :: Rw 9 1 q c (su.map st) :: Rw 96 2 q2 c2 (l.map wc) :: L)) {Kr : Am.St → Prop} {Ke : Nat → Am.St → Prop} :
    ∀ (m i : Nat), i + m = l.length → (∀ bs, getL (l.drop i) a = some bs → Kr (St.mk (Am.look [(4, T.v (V.str (strOf bs)))]) (Am.look []) H)) →
    (getL (l.drop i) a = none → Ke 0 (St.mk (Am.look [(0, T.v (V.ptr (some (id, 0)))), (1, T.v (V.int .i64 a))]) (Am.look []) H)) →
    Am.Rec.loop (Am.Run env) (Am.loopAt env 35 2) 35 2
      (St.mk (Am.look [(0, T.v (V.ptr (some (id, 0)))), (1, T.v (V.int .i64 a)), (5, T.v (V.int .i64 (i : Int)))]) (Am.look []) H) Kr Ke
  | 0, i, hi, kr, ke => by
    obtain ⟨f1, f2, f3, f4, _⟩ := ref_facts h.get
    rw [lp35_2]
    have e1 : ¬ (i : Int) < (l.length : Int) := by omega
    have e2 : l.drop i = [] := List.drop_of_length_le (by omega)
    rw [e2] at ke
    simp only [Option.isSome_some, Option.getD_some, req_true, Nat.zero_add, f3, f4, isK_slice, slLen_slice, Bool.and_self, e1, decide_false, br_false]
    exact ke rfl
  | m + 1, i, hi, kr, ke => by
    have hlt : i < l.length := by omega
    obtain ⟨f1, f2, f3, f4, _⟩ := ref_facts h.get
    have h2 := h.up 2
    simp only [nthA, outA] at h2
    obtain ⟨g1, g2, g3, g4, g5, _⟩ := wt_facts h2.rwRd hlt
    have e1 : (i : Int) < (l.length : Int) := by omega
    have e2 : 0 ≤ (i : Int) := by omega
    have hdr : l.drop i = l[i] :: l.drop (i + 1) := List.drop_eq_getElem_cons hlt
    rw [lp35_2]
    simp only [Option.isSome_some, Option.getD_some, req_true, Nat.zero_add, f3, f4, isK_slice, slLen_slice, slPtr_slice, Bool.and_self, e1, e2, decide_true, br_true, g1, g2, g3, g4, g5, Int.toNat_natCast, isK_int, isK_str, getInt_int, getStr_str]
    rw [hdr] at kr ke
    by_cases he : l[i].1 = a
    · simp only [he, decide_true, br_true]
      exact kr _ (by unfold getL; rw [List.find?_cons]; simp [he])
    · simp only [he, decide_false, br_false]
      rw [wrap_succ' (by omega)]
      have hg : getL (l[i] :: l.drop (i + 1)) a = getL (l.drop (i + 1)) a := by unfold getL; rw [List.find?_cons]; simp [he]
      rw [hg] at kr ke
      exact lp_mNow h0 ha hl h m (i + 1) (by omega) kr ke

theorem sp_mNow (h : Sat B H (RefP id su l r :: L)) (hl : l.length ≤ 1000) {a : Int} (h0 : 0 ≤ a) (ha : a < su.length) :
    ∀ {K : V → Am.Heap → Prop}, K (.str (strOf ((getL l a).getD (su.getD a.toNat [])))) H → Am.Rec.call (Am.Run env) 35 [.ptr (some (id, 0)), .int .i64 a] H K := by
  intro K k
  obtain ⟨q, c, q2, c2, h1⟩ := Sat.ref h
  obtain ⟨f1, f2, f3, f4, _⟩ := ref_facts h1.get
  rw [eq35]
  refine lp_mNow h0 ha hl h1 l.length 0 (by omega) (fun bs hb => ?_) (fun hn => ?_)
  · rw [List.drop_zero] at hb
    rw [hb] at k
    simp only [joinP_eq, br_true, br_false, req_true, look_cons, look_nil, reduceIte, reduceCtorEq, T_val_v, isKT_k, isKT_agg, isKT_lp, isLK_c, locCells_c, nthV_zero, nthV_one, nthV_two, vals_tuple, aggCells_agg, isAgg_agg, getInt_int, getBool_bool, getStr_str, getPtr_ptr, slPtr_slice, slLen_slice, slCap_slice, isK_int, isK_bool, isK_str, isK_ptr, isK_slice, isTuple_tuple, List.length_cons, List.length_nil, Bool.and_true, Bool.true_and, Bool.or_false, Bool.false_or, Bool.and_self, decide_true, decide_false, Bool.not_true, Bool.not_false, beq_dec, ble_dec, Nat.reduceAdd, Nat.reduceEqDiff, Nat.reduceEqDiff]
    exact k
  · rw [List.drop_zero] at hn
    rw [hn] at k
    have h2 := h1.up 1
    simp only [nthA, outA] at h2
    obtain ⟨g1, g2, g3⟩ := st_facts h2.rwRd (show a.toNat < su.length by omega)
    simp only [joinP_eq, br_true, br_false, req_true, look_cons, look_nil, reduceIte, reduceCtorEq, T_val_v, isKT_k, isKT_agg, isKT_lp, isLK_c, locCells_c, nthV_zero, nthV_one, nthV_two, vals_tuple, aggCells_agg, isAgg_agg, getInt_int, getBool_bool, getStr_str, getPtr_ptr, slPtr_slice, slLen_slice, slCap_slice, isK_int, isK_bool, isK_str, isK_ptr, isK_slice, isTuple_tuple, List.length_cons, List.length_nil, Bool.and_true, Bool.true_and, Bool.or_false, Bool.false_or, Bool.and_self, decide_true, decide_false, Bool.not_true, Bool.not_false, beq_dec, ble_dec, Nat.reduceAdd, Nat.reduceEqDiff, Nat.reduceEqDiff, Option.isSome_some, Option.getD_some, f1, f2, h0, ha, g1, g2, g3]
    have e : su.getD a.toNat [] = su[a.toNat]'(by omega) := getD_at (by omega)
    simp only [Option.getD_none, e] at k
    exact k

def notA (a : Int) (l : List (Int × List UInt8)) : List (Int × List UInt8) := l.filter fun w => !decide (w.1 = a)

theorem lp_mdrop {a : Int} (hl : l.length ≤ 1000) {Kr : Am.St → Prop} {Ke : Nat → Am.St → Prop} :
    ∀ (m i : Nat) {acc : List (Int × List UInt8)} {q4 : Option (Nat × Nat)} {c4 : Nat} {H : Am.Heap}, i + m = l.length → acc.length ≤ i →
    Sat B H (Rw 96 2 q4 c4 (acc.map wc) :: blk id 50 (mcs q n c q2 l.length c2 r) :: Rw 96 2 q2 c2 (l.map wc) :: L) →
    (∀ q' c' H', Sat B H' (Rw 96 2 q' c' ((acc ++ notA a (l.drop i)).map wc) :: blk id 50 (mcs q n c q2 l.length c2 r) :: Rw 96 2 q2 c2 (l.map wc) :: L) →
      Ke 0 (St.mk (Am.look [(0, T.v (V.ptr (some (id, 0)))), (4, T.v (V.slice q' (acc ++ notA a (l.drop i)).length c'))]) (Am.look []) H')) →
    Am.Rec.loop (Am.Run env) (Am.loopAt env 53 2) 53 2
      (St.mk (Am.look [(0, T.v (V.ptr (some (id, 0)))), (1, T.v (V.int .i64 a)), (4, T.v (V.slice q4 acc.length c4)), (5, T.v (V.int .i64 (i : Int)))]) (Am.look []) H) Kr Ke
  | 0, i, acc, q4, c4, H, hi, hac, h, k => by
    have hb := h.up 1
    simp only [nthA, outA] at hb
    obtain ⟨f1, f2, f3, f4, _⟩ := ref_facts hb.get
    rw [lp53_2]
    have e1 : ¬ (i : Int) < (l.length : Int) := by omega
    have e2 : l.drop i = [] := List.drop_of_length_le (by omega)
    rw [e2] at k
    simp only [Option.isSome_some, Option.getD_some, req_true, Nat.zero_add, f3, f4, isK_slice, slLen_slice, Bool.and_self, e1, decide_false, br_false]
    have := k q4 c4 H
    simp only [notA, List.filter_nil, List.append_nil] at this
    exact this h
  | m + 1, i, acc, q4, c4, H, hi, hac, h, k => by
    have hlt : i < l.length := by omega
    have hb := h.up 1
    simp only [nthA, outA] at hb
    obtain ⟨f1, f2, f3, f4, _⟩ := ref_facts hb.get
    have h2 := h.up 2
    simp only [nthA, outA] at h2
    obtain ⟨g1, g2, g3, g4, g5, g6, g7⟩ := wt_facts h2.rwRd hlt
    have e1 : (i : Int) < (l.length : Int) := by omega
    have e2 : 0 ≤ (i : Int) := by omega
    have hdr : l.drop i = l[i] :: l.drop (i + 1) := List.drop_eq_getElem_cons hlt
    rw [lp53_2]
    simp only [Option.isSome_some, Option.getD_some, req_true, Nat.zero_add, f3, f4, isK_slice, slLen_slice, slPtr_slice, Bool.and_self, e1, e2, decide_true, br_true, g1, g2, g3, g6, g7, Int.toNat_natCast, isK_int, getInt_int, wc_fits, wc_open]
    rw [hdr] at k
    rw [wrap_succ' (by omega)]
    by_cases he : l[i].1 = a
    · simp only [he, decide_true, Bool.not_true, br_false]
      have hg : notA a (l[i] :: l.drop (i + 1)) = notA a (l.drop (i + 1)) := by unfold notA; rw [List.filter_cons]; simp [he]
      rw [hg] at k
      exact lp_mdrop hl m (i + 1) (by omega) (by omega) h k
    · simp only [he, decide_false, Bool.not_false, br_true]
      have hg : acc ++ notA a (l[i] :: l.drop (i + 1)) = (acc ++ [l[i]]) ++ notA a (l.drop (i + 1)) := by unfold notA; rw [List.filter_cons]; simp [he]
      rw [hg] at k
      have hp := fun K => h.rwPush (t := 48) (u := 48) (K := K) el_wait sl_wait wait_z rfl (by omega) (wc_uni acc) (e2 := 96) (c := wc l[i]) rfl (fits_one (wc_fits _)) (by simp; omega)
      rw [List.length_map] at hp
      refine hp _ (fun q6 c6 H6 h6 => ?_)
      have e3 : (acc ++ [l[i]]).map wc = acc.map wc ++ [wc l[i]] := by simp
      rw [← e3] at h6
      have e4 : acc.length + 1 = (acc ++ [l[i]]).length := by simp
      rw [e4]
      exact lp_mdrop hl m (i + 1) (by omega) (by simp; omega) h6 k

theorem sp_mdrop (h : Sat B H (RefP id su l r :: L)) (hl : l.length ≤ 1000) (a : Int) (k : ∀ H', Sat B H' (RefP id su (notA a l) r :: L) → K (.tuple []) H') :
    Am.Rec.call (Am.Run env) 53 [.ptr (some (id, 0)), .int .i64 a] H K := by
  obtain ⟨q, c, q2, c2, h1⟩ := Sat.ref h
  rw [eq53]
  have h2 := h1.rwNil 96 2
  have h3 : Sat B H (Rw 96 2 none 0 (([] : List (Int × List UInt8)).map wc) :: blk id 50 (mcs q su.length c q2 l.length c2 r) :: Rw 96 2 q2 c2 (l.map wc) :: Rw 9 1 q c (su.map st) :: L) := h2.perm (by repeat (first | exact List.Perm.refl _ | refine pm_step 0 rfl ?_ | refine pm_step 1 rfl ?_ | refine pm_step 2 rfl ?_ | refine pm_step 3 rfl ?_ | refine pm_step 4 rfl ?_ | refine pm_step 5 rfl ?_ | refine pm_step 6 rfl ?_ | refine pm_step 7 rfl ?_ | refine pm_step 8 rfl ?_ | refine pm_step 9 rfl ?_))
  refine lp_mdrop (acc := []) hl l.length 0 (by omega) (by simp) h3 (fun q' c' H' h' => ?_)
  rw [List.nil_append, List.drop_zero] at h' ⊢
  have h4 := h'.up 1
  simp only [nthA, outA] at h4
  obtain ⟨f1, f2, f3, f4, f5, f6, f7, f8⟩ := ref_facts h4.get
  simp only [joinP_eq, br_true, br_false, req_true, look_cons, look_nil, reduceIte, reduceCtorEq, T_val_v, isKT_k, isKT_agg, isKT_lp, isLK_c, locCells_c, nthV_zero, nthV_one, nthV_two, vals_tuple, aggCells_agg, isAgg_agg, getInt_int, getBool_bool, getStr_str, getPtr_ptr, slPtr_slice, slLen_slice, slCap_slice, isK_int, isK_bool, isK_str, isK_ptr, isK_slice, isTuple_tuple, List.length_cons, List.length_nil, Bool.and_true, Bool.true_and, Bool.or_false, Bool.false_or, Bool.and_self, decide_true, decide_false, Bool.not_true, Bool.not_false, beq_dec, ble_dec, Nat.reduceAdd, Nat.reduceEqDiff, Nat.reduceEqDiff, Option.isSome_some, Option.getD_some, f7]
  have h5 := h4.store (off := 1) (vs := [V.slice q' (notA a l).length c'])
  have e : setMany (mcs q su.length c q2 l.length c2 r) 1 [V.slice q' (notA a l).length c'] = mcs q su.length c q' (notA a l).length c' r := rfl
  rw [e] at h5
  have h6 : Sat B _ (Rw 96 2 q2 c2 (l.map wc) :: blk id 50 (mcs q su.length c q' (notA a l).length c' r) :: Rw 9 1 q c (su.map st) :: Rw 96 2 q' c' ((notA a l).map wc) :: L) := h5.perm (by repeat (first | exact List.Perm.refl _ | refine pm_step 0 rfl ?_ | refine pm_step 1 rfl ?_ | refine pm_step 2 rfl ?_ | refine pm_step 3 rfl ?_ | refine pm_step 4 rfl ?_ | refine pm_step 5 rfl ?_ | refine pm_step 6 rfl ?_ | refine pm_step 7 rfl ?_ | refine pm_step 8 rfl ?_ | refine pm_step 9 rfl ?_))
  exact k _ (Sat.unref h6.drop)

end

/-! The document's objects in memory: all that waits is sure; an address's data. -/

theorem notA_map {ps : List Pg} (hs : SortP ps) (a : Int) : notA a (ps.map wt) = (dropP ps a).map wt := by
  rw [drop_filter hs.up]
  unfold notA
  rw [List.filter_map]
  rfl

theorem notA_perm {l l' : List (Int × List UInt8)} (h : l.Perm l') (a : Int) : (notA a l).Perm (notA a l') := h.filter _

theorem st_fit (bs : List UInt8) : OneAll (st bs) := fun v hv => by rw [st, List.mem_singleton] at hv; subst hv; rfl

section
variable {B : Am.Heap} {L : List Ast} {H : Am.Heap} {K : V → Am.Heap → Prop} {id : Nat} {su : List (List UInt8)} {l : List (Int × List UInt8)} {r : R} {q q2 : Option (Nat × Nat)} {c c2 n n2 : Nat}

theorem lp_mFirst (hl : l.length ≤ 1000) (h : Sat B H (blk id 50 (mcs q su.length c q2 l.length c2 r) :: Rw 9 1 q c (su.map st) :: Rw 96 2 q2 c2 (l.map wc) :: L)) {Kr : Am.St → Prop} {Ke : Nat → Am.St → Prop} :
    ∀ (m i at' : Nat) (hat : at' < l.length), i + m = l.length → (∀ j (hj : j < l.length), j < i → l[at'].1 ≤ l[j].1) →
    (∀ (at' : Nat) (hat : at' < l.length), (∀ j (hj : j < l.length), l[at'].1 ≤ l[j].1) → Ke 0 (St.mk (Am.look [(0, T.v (V.ptr (some (id, 0)))), (2, T.v (V.int .i64 (at' : Int)))]) (Am.look []) H)) →
    Am.Rec.loop (Am.Run env) (Am.loopAt env 41 2) 41 2
      (St.mk (Am.look [(0, T.v (V.ptr (some (id, 0)))), (2, T.v (V.int .i64 (at' : Int))), (3, T.v (V.int .i64 (i : Int)))]) (Am.look []) H) Kr Ke
  | 0, i, at', hat, hi, hm, k => by
    obtain ⟨f1, f2, f3, f4, _⟩ := ref_facts h.get
    rw [lp41_2]
    have e1 : ¬ (i : Int) < (l.length : Int) := by omega
    simp only [Option.isSome_some, Option.getD_some, req_true, Nat.zero_add, f3, f4, isK_slice, slLen_slice, Bool.and_self, e1, decide_false, br_false]
    exact k at' hat (fun j hj => hm j hj (by omega))
  | m + 1, i, at', hat, hi, hm, k => by
    have hlt : i < l.length := by omega
    obtain ⟨f1, f2, f3, f4, _⟩ := ref_facts h.get
    have h2 := h.up 2
    simp only [nthA, outA] at h2
    obtain ⟨g1, g2, g3, _⟩ := wt_facts h2.rwRd hlt
    obtain ⟨i1, i2, i3, _⟩ := wt_facts h2.rwRd hat
    have e1 : (i : Int) < (l.length : Int) := by omega
    have e2 : 0 ≤ (i : Int) := by omega
    have e3 : (at' : Int) < (l.length : Int) := by omega
    have e4 : 0 ≤ (at' : Int) := by omega
    rw [lp41_2]
    simp only [Option.isSome_some, Option.getD_some, req_true, Nat.zero_add, f3, f4, isK_slice, slLen_slice, slPtr_slice, Bool.and_self, e1, e2, e3, e4, decide_true, br_true, g1, g2, g3, i2, i3, Int.toNat_natCast, isK_int, getInt_int]
    rw [wrap_succ' (by omega)]
    by_cases hc : l[i].1 < l[at'].1
    · simp only [hc, decide_true, br_true]
      refine lp_mFirst hl h m (i + 1) i hlt (by omega) (fun j hj hji => ?_) k
      by_cases hj' : j = i
      · subst hj'; exact Int.le_refl _
      · have := hm j hj (by omega)
        omega
    · simp only [hc, decide_false, br_false]
      refine lp_mFirst hl h m (i + 1) at' hat (by omega) (fun j hj hji => ?_) k
      by_cases hj' : j = i
      · subst hj'; omega
      · exact hm j hj (by omega)

theorem sp_mFirst (h : Sat B H (RefP id su l r :: L)) {p : Pg} {ps : List Pg} (hp : l.Perm ((p :: ps).map wt)) (hs : SortP (p :: ps)) (hl : (p :: ps).length ≤ 8) (hin : p.addr < su.length)
    (k : ∀ l' H', l'.Perm (ps.map wt) → Sat B H' (RefP id (su.set p.addr.toNat p.data) l' r :: L) → K (.tuple []) H') :
    Am.Rec.call (Am.Run env) 41 [.ptr (some (id, 0))] H K := by
  obtain ⟨q, c, q2, c2, h1⟩ := Sat.ref h
  have hll : l.length = (p :: ps).length := by rw [hp.length_eq, List.length_map]
  have hlo := hs.lo p (List.mem_cons_self ..)
  rw [eq41]
  refine lp_mFirst (by omega) h1 l.length 0 0 (by rw [hll]; simp) (by omega) (fun j hj h0 => by omega) (fun at' hat hm => ?_)
  -- it is the first one
  have hw : l[at'] = wt p := by
    obtain ⟨x, hx, he⟩ := List.mem_map.1 (hp.mem_iff.1 (List.getElem_mem hat))
    have hpm : wt p ∈ l := hp.mem_iff.2 (List.mem_map.2 ⟨p, List.mem_cons_self .., rfl⟩)
    obtain ⟨j, hj, hje⟩ := List.getElem_of_mem hpm
    have h2 := hm j hj
    rw [hje, ← he] at h2
    have h2 : x.addr ≤ p.addr := h2
    rcases List.mem_cons.1 hx with rfl | hx
    · exact he.symm
    · have := (List.pairwise_cons.1 hs.up).1 x hx
      omega
  obtain ⟨f1, f2, f3, f4, f5, f6, f7, f8⟩ := ref_facts h1.get
  have h2 := h1.up 2
  simp only [nthA, outA] at h2
  obtain ⟨g1, g2, g3, g4, g5, _⟩ := wt_facts h2.rwRd hat
  have e1 : (at' : Int) < (l.length : Int) := by omega
  have e2 : 0 ≤ (at' : Int) := by omega
  have w1 : l[at'].1 = p.addr := by rw [hw]; rfl
  have w2 : l[at'].2 = p.data := by rw [hw]; rfl
  rw [w1] at g3
  rw [w2] at g5
  have h3 := h1.up 1
  simp only [nthA, outA] at h3
  have hai : p.addr.toNat < su.length := by omega
  obtain ⟨s1, s2⟩ := h3.rwSet (st_uni su) (i := p.addr.toNat) (by simpa using hai) (c := st p.data) rfl (st_fit _)
  have hsm : q.isSome = true := (st_facts h3.rwRd hai).1
  obtain ⟨H1, hH1⟩ : ∃ H1, H.store (q.getD (0, 0)).1 ((q.getD (0, 0)).2 + p.addr.toNat * 1) [V.str (strOf p.data)] = H1 := ⟨_, rfl⟩
  have es : st p.data = [V.str (strOf p.data)] := rfl
  rw [es, hH1, ← es] at s2
  have h4 := s2.up 1
  simp only [nthA, outA] at h4
  obtain ⟨j1, j2, j3, j4, _⟩ := ref_facts h4.get
  have h5 := s2.up 2
  simp only [nthA, outA] at h5
  obtain ⟨i1, i2, i3, _⟩ := wt_facts h5.rwRd hat
  rw [w1] at i3
  simp only [joinP_eq, br_true, br_false, req_true, look_cons, look_nil, reduceIte, reduceCtorEq, T_val_v, isKT_k, isKT_agg, isKT_lp, isLK_c, locCells_c, nthV_zero, nthV_one, nthV_two, vals_tuple, aggCells_agg, isAgg_agg, getInt_int, getBool_bool, getStr_str, getPtr_ptr, slPtr_slice, slLen_slice, slCap_slice, isK_int, isK_bool, isK_str, isK_ptr, isK_slice, isTuple_tuple, List.length_cons, List.length_nil, Bool.and_true, Bool.true_and, Bool.or_false, Bool.false_or, Bool.and_self, decide_true, decide_false, Bool.not_true, Bool.not_false, beq_dec, ble_dec, Nat.reduceAdd, Nat.reduceEqDiff, Nat.reduceEqDiff, Option.isSome_some, Option.getD_some, f1, f2, f3, f4, e1, e2, g1, g2, g3, g4, g5, Int.toNat_natCast, hlo.1, hin, hsm, s1, hH1, j1, j2, j3, j4, i1, i2, i3]
  have h6 : Sat B H1 (RefP id (su.set p.addr.toNat p.data) l r :: L) := by
    refine Sat.unref (q := q) (c := c) (q2 := q2) (c2 := c2) ?_
    rw [List.length_set, List.map_set]
    exact s2.perm (by repeat (first | exact List.Perm.refl _ | refine pm_step 0 rfl ?_ | refine pm_step 1 rfl ?_ | refine pm_step 2 rfl ?_ | refine pm_step 3 rfl ?_ | refine pm_step 4 rfl ?_ | refine pm_step 5 rfl ?_ | refine pm_step 6 rfl ?_ | refine pm_step 7 rfl ?_ | refine pm_step 8 rfl ?_ | refine pm_step 9 rfl ?_))
  refine sp_mdrop h6 (by omega) p.addr (fun H7 h7 => ?_)
  refine k _ H7 ?_ h7
  refine (notA_perm hp _).trans ?_
  rw [notA_map hs, drop_head hs]

theorem lp_mSettle {Kr : Am.St → Prop} {Ke : Nat → Am.St → Prop} : ∀ (ps : List Pg) {l : List (Int × List UInt8)} {su : List (List UInt8)} {H : Am.Heap}, l.Perm (ps.map wt) → SortP ps → ps.length ≤ 8 → (∀ p ∈ ps, p.addr < su.length) →
    Sat B H (RefP id su l r :: L) → (∀ H', Sat B H' (RefP id (flushS su ps) [] r :: L) → Ke 0 (St.mk (Am.look []) (Am.look []) H')) →
    Am.Rec.loop (Am.Run env) (Am.loopAt env 23 0) 23 0 (St.mk (Am.look [(0, T.v (V.ptr (some (id, 0))))]) (Am.look []) H) Kr Ke
  | [], l, su, H, hp, hs, hl, hin, h, k => by
    obtain rfl : l = [] := List.perm_nil.1 hp
    obtain ⟨q, c, q2, c2, h1⟩ := Sat.ref h
    obtain ⟨f1, f2, f3, f4, _⟩ := ref_facts h1.get
    rw [lp23_0]
    simp only [Option.isSome_some, Option.getD_some, req_true, Nat.zero_add, f3, f4, isK_slice, slLen_slice, Bool.and_self, List.length_nil]
    exact k H h
  | p :: ps, l, su, H, hp, hs, hl, hin, h, k => by
    obtain ⟨q, c, q2, c2, h1⟩ := Sat.ref h
    obtain ⟨f1, f2, f3, f4, _⟩ := ref_facts h1.get
    have hll : l.length = (p :: ps).length := by rw [hp.length_eq, List.length_map]
    have e1 : (l.length : Int) > 0 := by rw [hll]; simp
    rw [lp23_0]
    simp only [Option.isSome_some, Option.getD_some, req_true, Nat.zero_add, f3, f4, isK_slice, slLen_slice, Bool.and_self, e1, decide_true, br_true]
    refine sp_mFirst h hp hs hl (hin p (List.mem_cons_self ..)) (fun l' H' hp' h' => ?_)
    refine lp_mSettle ps hp' (sort_tail hs) (by simp at hl; omega) (fun x hx => by rw [List.length_set]; exact hin x (List.mem_cons_of_mem _ hx)) h' k

theorem sp_mSettle (h : Sat B H (RefP id su l r :: L)) {ps : List Pg} (hp : l.Perm (ps.map wt)) (hs : SortP ps) (hl : ps.length ≤ 8) (hin : ∀ p ∈ ps, p.addr < su.length)
    (k : ∀ H', Sat B H' (RefP id (flushS su ps) [] r :: L) → K (.tuple []) H') :
    Am.Rec.call (Am.Run env) 23 [.ptr (some (id, 0))] H K := by
  rw [eq23]
  refine lp_mSettle ps hp hs hl hin h (fun H' h' => ?_)
  have e0 : Nat.beq 0 0 = true := rfl
  rw [e0, br_true]
  exact k H' h'

def thereL (l : List (Int × List UInt8)) (a : Int) : Bool := l.any fun w => decide (w.1 = a)

theorem thereL_has {l : List (Int × List UInt8)} {ps : List Pg} (hp : l.Perm (ps.map wt)) (a : Int) : thereL l a = hasP ps a := by
  unfold thereL hasP
  have h1 : l.any (fun w => decide (w.1 = a)) = (ps.map wt).any (fun w => decide (w.1 = a)) := by
    rw [Bool.eq_iff_iff, List.any_eq_true, List.any_eq_true]
    constructor
    · rintro ⟨x, hx, he⟩; exact ⟨x, hp.mem_iff.1 hx, he⟩
    · rintro ⟨x, hx, he⟩; exact ⟨x, hp.mem_iff.2 hx, he⟩
  rw [h1, List.any_map]
  rfl

theorem lp_mput {a : Int} {s : ByteArray} {sure : Bool} (hl : l.length ≤ 1000) (h : Sat B H (blk id 50 (mcs q su.length c q2 l.length c2 r) :: Rw 9 1 q c (su.map st) :: Rw 96 2 q2 c2 (l.map wc) :: L)) {Kr : Am.St → Prop} {Ke : Nat → Am.St → Prop}
    (k : Ke 0 (St.mk (Am.look [(0, T.v (V.ptr (some (id, 0)))), (1, T.v (V.int .i64 a)), (2, T.v (V.str s)), (3, T.v (V.bool sure)), (8, T.v (V.bool (thereL l a)))]) (Am.look []) H)) :
    ∀ (m i : Nat), i + m = l.length →
    Am.Rec.loop (Am.Run env) (Am.loopAt env 36 2) 36 2
      (St.mk (Am.look [(0, T.v (V.ptr (some (id, 0)))), (1, T.v (V.int .i64 a)), (2, T.v (V.str s)), (3, T.v (V.bool sure)), (8, T.v (V.bool (thereL (l.take i) a))), (9, T.v (V.int .i64 (i : Int)))]) (Am.look []) H) Kr Ke
  | 0, i, hi => by
    obtain ⟨f1, f2, f3, f4, _⟩ := ref_facts h.get
    rw [lp36_2]
    have e1 : ¬ (i : Int) < (l.length : Int) := by omega
    simp only [Option.isSome_some, Option.getD_some, req_true, Nat.zero_add, f3, f4, isK_slice, slLen_slice, Bool.and_self, e1, decide_false, br_false]
    rw [List.take_of_length_le (by omega)]
    exact k
  | m + 1, i, hi => by
    have hlt : i < l.length := by omega
    obtain ⟨f1, f2, f3, f4, _⟩ := ref_facts h.get
    have h2 := h.up 2
    simp only [nthA, outA] at h2
    obtain ⟨g1, g2, g3, _⟩ := wt_facts h2.rwRd hlt
    have e1 : (i : Int) < (l.length : Int) := by omega
    have e2 : 0 ≤ (i : Int) := by omega
    have hth : thereL (l.take (i + 1)) a = (thereL (l.take i) a || decide (l[i].1 = a)) := by
      unfold thereL
      rw [List.take_succ_eq_append_getElem hlt, List.any_append]
      simp
    have ih := lp_mput (a := a) (s := s) (sure := sure) hl h (Kr := Kr) (Ke := Ke) k m (i + 1) (by omega)
    rw [hth] at ih
    rw [lp36_2]
    simp only [Option.isSome_some, Option.getD_some, req_true, Nat.zero_add, f3, f4, isK_slice, slLen_slice, slPtr_slice, Bool.and_self, e1, e2, decide_true, br_true, g1, g2, g3, Int.toNat_natCast, isK_int, getInt_int, mergeR_ite, ite_self]
    rw [wrap_succ' (by omega)]
    cases hb : thereL (l.take i) a <;> rw [hb] at ih
    · exact ih
    · exact ih

end

/-! The document's objects in memory: the calls, as an object answers them. -/

/-- The document's object, like an object. -/
def RefA (id : Nat) (o : Ob) : Ast := exA fun l => star (lft (l.Perm (o.ps.map wt))) (RefP id o.su l o.r)

theorem nowM_eq {o : Ob} (ho : o.ok) {l : List (Int × List UInt8)} (hp : l.Perm (o.ps.map wt)) {a : Int} (h0 : 0 ≤ a) (ha : a < o.su.length) : (getL l a).getD (o.su.getD a.toNat []) = nowO o a := by
  unfold nowO
  rw [if_pos ⟨h0, ha⟩, getL_perm hp ho.sort]

section
variable {B : Am.Heap} {L : List Ast} {H : Am.Heap} {K : V → Am.Heap → Prop} {id : Nat} {o : Ob} {r : R} {q q2 : Option (Nat × Nat)} {c c2 n n2 : Nat}

theorem Sat.refA (h : Sat B H (RefA id o :: L)) : ∃ l, l.Perm (o.ps.map wt) ∧ Sat B H (RefP id o.su l o.r :: L) := by
  obtain ⟨l, h⟩ := h.ex1
  obtain ⟨h1, h⟩ := h.star.lft
  exact ⟨l, h1, h⟩

theorem Sat.unrefA {l : List (Int × List UInt8)} (h : Sat B H (RefP id o.su l o.r :: L)) (hp : l.Perm (o.ps.map wt)) : Sat B H (RefA id o :: L) := Sat.intro (h.pure hp).unstar

theorem len_perm {l : List (Int × List UInt8)} (hp : l.Perm (o.ps.map wt)) : l.length = o.ps.length := by rw [hp.length_eq, List.length_map]

theorem sp_rNow (h : Sat B H (RefA id o :: L)) (ho : o.ok) {a : Int} (h0 : 0 ≤ a) (ha : a < o.su.length) {K : V → Am.Heap → Prop} (k : K (.str (strOf (nowO o a))) H) :
    Am.Rec.call (Am.Run env) 35 [.ptr (some (id, 0)), .int .i64 a] H K := by
  obtain ⟨l, hp, h1⟩ := Sat.refA h
  have hl8 := ho.le8
  refine sp_mNow h1 (by rw [len_perm hp]; omega) h0 ha ?_
  rw [nowM_eq ho hp h0 ha]
  exact k

theorem sp_rSettle (h : Sat B H (RefA id o :: L)) (ho : o.ok) (k : ∀ H', Sat B H' (RefA id (flushO o) :: L) → K (.tuple []) H') :
    Am.Rec.call (Am.Run env) 23 [.ptr (some (id, 0))] H K := by
  obtain ⟨l, hp, h1⟩ := Sat.refA h
  exact sp_mSettle h1 hp ho.sort ho.le8 ho.inr (fun H' h' => k H' (Sat.unrefA (o := flushO o) h' (List.Perm.refl _)))

theorem sp_rput (h : Sat B H (RefA id o :: L)) (ho : o.ok) (p : Pg) (hpp : p.put.data = p.data) (h0 : 0 ≤ p.addr) (h1 : p.addr < o.su.length) (hd : p.data.length ≤ 64) (sure : Bool)
    (k : ∀ H', Sat B H' (RefA id (putO o p sure) :: L) → K (.tuple []) H') :
    Am.Rec.call (Am.Run env) 36 [.ptr (some (id, 0)), .int .i64 p.addr, .str (strOf p.data), .bool sure] H K := by
  obtain ⟨l, hp, g1⟩ := Sat.refA h
  obtain ⟨q, c, q2, c2, g2⟩ := Sat.ref g1
  have hl8 := ho.le8
  have hn2 := ho.n2
  have hll := len_perm hp
  obtain ⟨f1, f2, f3, f4, _⟩ := ref_facts g2.get
  rw [eq36]
  refine lp_mput (by omega) g2 ?_ l.length 0 (by omega)
  rw [thereL_has hp]
  simp only [joinP_eq, br_true, br_false, req_true, look_cons, look_nil, reduceIte, reduceCtorEq, T_val_v, isKT_k, isKT_agg, isKT_lp, isLK_c, locCells_c, nthV_zero, nthV_one, nthV_two, vals_tuple, aggCells_agg, isAgg_agg, getInt_int, getBool_bool, getStr_str, getPtr_ptr, slPtr_slice, slLen_slice, slCap_slice, isK_int, isK_bool, isK_str, isK_ptr, isK_slice, isTuple_tuple, List.length_cons, List.length_nil, Bool.and_true, Bool.true_and, Bool.or_false, Bool.false_or, Bool.and_self, decide_true, decide_false, Bool.not_true, Bool.not_false, beq_dec, ble_dec, Nat.reduceAdd, Nat.reduceEqDiff, Nat.reduceEqDiff, Option.isSome_some, Option.getD_some, f3, f4, mergeR_ite, ite_self]
  have hres := put_res ho.le8 h0 (by omega) hd
  -- the tail: dropped, and put
  have tail : ∀ {o1 : Ob} {l1 : List (Int × List UInt8)} {H1 : Am.Heap}, o1.su.length = o.su.length → l1.length ≤ 8 → Sat B H1 (RefP id o1.su l1 o.r :: L) → ∀ {K : V → Am.Heap → Prop},
      (sure = true → ∀ H', Sat B H' (RefP id (o1.su.set p.addr.toNat p.data) (notA p.addr l1) o.r :: L) → K (.tuple []) H') →
      (sure = false → ∀ H', Sat B H' (RefP id o1.su (notA p.addr l1 ++ [(p.addr, p.data)]) o.r :: L) → K (.tuple []) H') →
      Am.Rec.call (Am.Run env) 53 [.ptr (some (id, 0)), .int .i64 p.addr] H1 fun v H' =>
        br sure
          (req (H'.inb id 0 1 && V.isK Kind.slice (H'.cell id 0))
            (req (decide (0 ≤ p.addr) && decide (p.addr < ((H'.cell id 0).slLen : Int)) && (H'.cell id 0).slPtr.isSome)
              (req (H'.wr ((H'.cell id 0).slPtr.getD (0, 0)).1 (((H'.cell id 0).slPtr.getD (0, 0)).2 + p.addr.toNat * 1) 1)
                (K (V.tuple []) (H'.store ((H'.cell id 0).slPtr.getD (0, 0)).1 (((H'.cell id 0).slPtr.getD (0, 0)).2 + p.addr.toNat * 1) [V.str (strOf p.data)])))))
          (req (H'.inb id 1 1 && V.isK Kind.slice (H'.cell id 1))
            (Am.appendOp env [48, 48] [V.slice (H'.cell id 1).slPtr (H'.cell id 1).slLen (H'.cell id 1).slCap, V.slice (some (H'.next, 0)) 1 1]
              (H'.alloc (Am.Obj.cells 96 (c95 p.addr (strOf p.data)) false)) fun q n c H' =>
              req (H'.wr id 1 1) (K (V.tuple []) (H'.store id 1 [V.slice q n c])))) := by
    intro o1 l1 H1 hsl hl1 s1 K kt kf
    refine sp_mdrop s1 (by omega) p.addr (fun H2 s2 => ?_)
    obtain ⟨qa, ca, qb, cb, s3⟩ := Sat.ref s2
    obtain ⟨j1, j2, j3, j4, j5, j6, j7, j8⟩ := ref_facts s3.get
    have hnl : (notA p.addr l1).length ≤ l1.length := List.length_filter_le _ _
    cases sure
    · rw [br_false]
      simp only [j3, j4, isK_slice, slPtr_slice, slLen_slice, slCap_slice, Bool.and_self, req_true]
      have s4 := s3.up 2
      simp only [nthA, outA] at s4
      have hpu := fun K => s4.rwPush (t := 48) (u := 48) (K := K) el_wait sl_wait wait_z rfl (by omega) (wc_uni _) (e2 := 96) (c := wc (p.addr, p.data)) rfl (fits_one (wc_fits _)) (by simp; omega)
      rw [List.length_map] at hpu
      refine hpu _ (fun q6 c6 H6 s6 => ?_)
      have s7 := s6.up 1
      simp only [nthA, outA] at s7
      obtain ⟨_, _, _, _, _, _, i7, _⟩ := ref_facts s7.get
      simp only [i7, req_true]
      have s8 := s7.store (off := 1) (vs := [V.slice q6 ((notA p.addr l1).length + 1) c6])
      have e : setMany (mcs qa o1.su.length ca qb (notA p.addr l1).length cb o.r) 1 [V.slice q6 ((notA p.addr l1).length + 1) c6] = mcs qa o1.su.length ca q6 (notA p.addr l1 ++ [(p.addr, p.data)]).length c6 o.r := by
        rw [List.length_append]; rfl
      rw [e] at s8
      have e2 : (notA p.addr l1).map wc ++ [wc (p.addr, p.data)] = (notA p.addr l1 ++ [(p.addr, p.data)]).map wc := by simp
      rw [e2] at s8
      exact kf rfl _ (Sat.unref (s8.perm (by repeat (first | exact List.Perm.refl _ | refine pm_step 0 rfl ?_ | refine pm_step 1 rfl ?_ | refine pm_step 2 rfl ?_ | refine pm_step 3 rfl ?_ | refine pm_step 4 rfl ?_ | refine pm_step 5 rfl ?_ | refine pm_step 6 rfl ?_ | refine pm_step 7 rfl ?_ | refine pm_step 8 rfl ?_ | refine pm_step 9 rfl ?_))))
    · rw [br_true]
      have s4 := s3.up 1
      simp only [nthA, outA] at s4
      have hai : p.addr.toNat < o1.su.length := by omega
      obtain ⟨w1, w2⟩ := s4.rwSet (st_uni o1.su) (i := p.addr.toNat) (by simpa using hai) (c := st p.data) rfl (st_fit _)
      have hsm : qa.isSome = true := (st_facts s4.rwRd hai).1
      have e3 : p.addr < (o1.su.length : Int) := by omega
      simp only [j1, j2, isK_slice, slPtr_slice, slLen_slice, slCap_slice, Bool.and_self, req_true, h0, e3, hsm, decide_true, w1]
      refine kt rfl _ (Sat.unref (q := qa) (c := ca) (q2 := qb) (c2 := cb) ?_)
      rw [List.length_set, List.map_set]
      exact w2.perm (by repeat (first | exact List.Perm.refl _ | refine pm_step 0 rfl ?_ | refine pm_step 1 rfl ?_ | refine pm_step 2 rfl ?_ | refine pm_step 3 rfl ?_ | refine pm_step 4 rfl ?_ | refine pm_step 5 rfl ?_ | refine pm_step 6 rfl ?_ | refine pm_step 7 rfl ?_ | refine pm_step 8 rfl ?_ | refine pm_step 9 rfl ?_))
  unfold putO at k
  cases hs : sure
  · rw [hs] at k tail
    simp only [Bool.false_eq_true, if_false] at k
    simp only [Bool.not_false, Bool.true_and, if_true, req_true]
    by_cases hb : hasP o.ps p.addr = false ∧ o.ps.length ≥ 8
    · have e8 : (l.length : Int) = 8 := by omega
      rw [if_pos hb] at hres
      rw [if_pos hres] at k
      simp only [hb.1, Bool.not_false, e8, decide_true, Bool.and_self, br_true]
      refine sp_mSettle g1 hp ho.sort ho.le8 ho.inr (fun H' h' => ?_)
      refine tail (o1 := flushO o) (flushS_len _ _) (by simp) h' (fun h => by cases h) (fun _ H2 h2 => ?_)
      refine k H2 (Sat.unrefA (o := ⟨flushS o.su o.ps, (putP [] p).1, o.r⟩) h2 ?_)
      have hz : (putP [] p).2 = 0 := by rw [put_res (by simp) h0 (by omega) hd, if_neg (by simp)]
      have hpe := (put_perm sortNil hz).map wt
      have ew : wt p.put = (p.addr, p.data) := by unfold wt; rw [hpp]; rfl
      refine List.Perm.trans ?_ hpe.symm
      rw [List.map_cons, ew]
      exact List.Perm.refl _
    · rw [if_neg hb] at hres
      rw [if_neg (by rw [hres]; omega)] at k
      have e8 : (!hasP o.ps p.addr && decide ((l.length : Int) = 8)) = false := by
        cases hh : hasP o.ps p.addr
        · have : ¬ (l.length : Int) = 8 := fun h => hb ⟨hh, by omega⟩
          simp [this]
        · rfl
      rw [e8, br_false]
      refine tail (o1 := o) rfl (by omega) g1 (fun h => by cases h) (fun _ H2 h2 => ?_)
      refine k H2 (Sat.unrefA (o := ⟨o.su, (putP o.ps p).1, o.r⟩) h2 ?_)
      have hpe := (put_perm ho.sort hres).map wt
      have ew : wt p.put = (p.addr, p.data) := by unfold wt; rw [hpp]; rfl
      refine List.Perm.trans ?_ hpe.symm
      rw [List.map_cons, ew, ← notA_map ho.sort]
      exact List.perm_append_comm.trans ((notA_perm hp _).cons _)
  · rw [hs] at k tail
    simp only [if_true] at k
    simp only [Bool.not_true, Bool.false_and, br_false]
    refine tail (o1 := o) rfl (by omega) g1 (fun _ H2 h2 => ?_) (fun h => by cases h)
    refine k H2 (Sat.unrefA (o := ⟨o.su.set p.addr.toNat p.data, dropP o.ps p.addr, o.r⟩) h2 ?_)
    rw [← notA_map ho.sort]
    exact notA_perm hp _

end

/-! The document's objects in memory: a command; a fall; a new one. -/

section
variable {B : Am.Heap} {L : List Ast} {H : Am.Heap} {K : V → Am.Heap → Prop} {id : Nat} {o : Ob} {r : R} {q q2 : Option (Nat × Nat)} {c c2 n n2 : Nat}

theorem sp_rValid (x : Int) (c : Cm) (hk : 0 ≤ c.kd) (n : Nat) : Am.Rec.call (Am.Run env) 33 [.int .i64 x, .agg c.cs, .int .i64 (n : Int)] H K = K (.bool (valid x c n)) H := by
  conv => lhs; unfold Cm.cs
  rw [eq33]
  unfold valid
  have e : decide ((c.dn : Int) ≤ 64) = decide (c.dn ≤ 64) := by rw [decide_eq_decide]; omega
  rw [e]
  by_cases a1 : x < 0
  · have : ¬ 0 ≤ x := by omega
    simp [a1, this]
  · have b1 : 0 ≤ x := by omega
    by_cases a2 : x > 7
    · have : ¬ x < 8 := by omega
      simp [a1, a2, this]
    · have b2 : x < 8 := by omega
      by_cases a3 : c.kd > 9
      · have : ¬ c.kd ≤ 9 := by omega
        simp [a1, a2, a3, this]
      · have b3 : c.kd ≤ 9 := by omega
        by_cases a4 : c.kd < 3
        · have b4 : c.kd = 0 ∨ c.kd = 1 ∨ c.kd = 2 := by omega
          by_cases a5 : c.lba < 0
          · have b5 : ¬ 0 ≤ c.lba := by omega
            rcases b4 with b4 | b4 | b4 <;> simp [a1, a2, b1, b2, b4, a5, b5]
          · have b5 : 0 ≤ c.lba := by omega
            by_cases a6 : c.lba ≥ (n : Int)
            · have b6 : ¬ c.lba < (n : Int) := by omega
              rcases b4 with b4 | b4 | b4 <;> simp [a1, a2, b1, b2, b4, a5, b5, a6, b6]
            · have b6 : c.lba < (n : Int) := by omega
              rcases b4 with b4 | b4 | b4 <;> simp [a1, a2, b1, b2, b4, a5, b5, a6, b6]
        · have c0 : ¬ c.kd = 0 := by omega
          have c1 : ¬ c.kd = 1 := by omega
          have c2 : ¬ c.kd = 2 := by omega
          simp [a1, a2, a3, a4, b1, b2, b3, c0, c1, c2]

theorem sp_r14Permits (r : R) (hr : Inv r) (x : Int) (c : Cm) (hk : 0 ≤ c.kd) : Am.Rec.call (Am.Run env) 34 [.agg r.cs, .int .i64 x, .agg c.cs] H K = K (.bool (may r x c)) H := by
  conv => lhs; unfold Cm.cs R.cs
  rw [eq34]
  simp only [R.fold, sp_rPermits, permitsD_eq hr, joinP_eq, br_true, br_false, req_true, look_cons, look_nil, reduceIte, reduceCtorEq, T_val_v, isKT_k, isKT_agg, isKT_lp, isLK_c, locCells_c, nthV_zero, nthV_one, nthV_two, vals_tuple, aggCells_agg, isAgg_agg, getInt_int, getBool_bool, getStr_str, getPtr_ptr, slPtr_slice, slLen_slice, slCap_slice, isK_int, isK_bool, isK_str, isK_ptr, isK_slice, isTuple_tuple, List.length_cons, List.length_nil, Bool.and_true, Bool.true_and, Bool.or_false, Bool.false_or, Bool.and_self, decide_true, decide_false, Bool.not_true, Bool.not_false, beq_dec, ble_dec, Nat.reduceAdd, Nat.reduceEqDiff, Nat.reduceEqDiff]
  unfold may
  by_cases h3 : c.kd > 3
  · have h0 : ¬ c.kd = 0 := by omega
    have h1 : ¬ (c.kd = 1 ∨ c.kd = 2 ∨ c.kd = 3) := by omega
    simp only [h3, decide_true, br_true, h0, h1, if_false]
  · by_cases h0 : c.kd = 0
    · simp [h0]
    · have h1 : c.kd = 1 ∨ c.kd = 2 ∨ c.kd = 3 := by omega
      have h4 : c.kd > 0 := by omega
      simp only [h3, h4, decide_true, decide_false, br_false, h0, h1, if_true, if_false]

theorem sp_rDo14 (h : Sat B H (RefA id o :: L)) (ho : o.ok) (x : Int) (c : Cm) (hk : 0 ≤ c.kd) (dat : List UInt8) (hd : c.dn = dat.length) (hr : Rds B L c.dp dat)
    (k : ∀ H', Sat B H' (RefA id (doO o x c dat).1 :: L) → K (.tuple [.int .i64 (doO o x c dat).2.e, .str (strOf (doO o x c dat).2.d), .agg (doO o x c dat).2.r.cs]) H') :
    Am.Rec.call (Am.Run env) 16 [.ptr (some (id, 0)), .int .i64 x, .agg c.cs] H K := by
  obtain ⟨l, hp, g1⟩ := Sat.refA h
  obtain ⟨q, cc, q2, c2, g2⟩ := Sat.ref g1
  obtain ⟨f1, f2, f3, f4, f5, f6, f7, f8⟩ := ref_facts g2.get
  conv in c.cs => unfold Cm.cs
  rw [eq16]
  simp only [Cm.fold, Option.isSome_some, Option.getD_some, req_true, Nat.zero_add, f1, f2, isK_slice, slLen_slice, Bool.and_self, sp_rValid _ _ hk, isK_bool, getBool_bool, zero_cs]
  unfold doO at k
  cases hv : valid x c o.su.length
  · rw [if_pos hv] at k
    exact k H h
  · simp only [Bool.not_true, br_false, f5, f6, R.fits_cs, R.open_cs, Bool.and_self, req_true, sp_r14Permits _ ho.inv _ _ hk, isK_bool, getBool_bool]
    rw [if_neg (by simp [hv])] at k
    have hv2 := hv
    unfold valid at hv2
    simp only [Bool.and_eq_true, Bool.or_eq_true, Bool.not_eq_true', Bool.or_eq_false_iff, decide_eq_true_eq, decide_eq_false_iff_not] at hv2
    obtain ⟨⟨⟨⟨v1, v2⟩, v3⟩, v4⟩, v5⟩ := hv2
    cases hm : may o.r x c
    · rw [if_pos hm] at k
      exact k H h
    · rw [if_neg (by simp [hm])] at k
      simp only [Bool.not_true, br_false]
      by_cases k0 : c.kd = 0
      · rw [if_pos k0] at k
        simp only [k0, decide_true, br_true]
        refine sp_rNow h ho (by omega) (by omega) ?_
        simp only [isK_str, req_true, getStr_str]
        exact k H h
      · rw [if_neg k0] at k
        simp only [k0, decide_false, br_false]
        by_cases k1 : c.kd = 1
        · rw [if_pos k1] at k
          simp only [k1, decide_true, br_true]
          have hdn : c.dn ≤ 64 := by omega
          have hrb := hr H h.drop
          rw [hd]
          simp only [hrb.strOk, hrb.strAt, req_true]
          refine sp_rput h ho ⟨c.lba, dat, false⟩ rfl (by simp only []; omega) (by simp only []; omega) (by simp only []; omega) c.su (fun H5 h5 => ?_)
          exact k H5 h5
        · rw [if_neg k1] at k
          simp only [k1, decide_false, br_false]
          by_cases k2 : c.kd = 2
          · rw [if_pos k2] at k
            simp only [k2, decide_true, br_true]
            refine sp_rput h ho ⟨c.lba, [], true⟩ rfl (by simp only []; omega) (by simp only []; omega) (by simp) c.su (fun H5 h5 => ?_)
            exact k H5 h5
          · rw [if_neg k2] at k
            simp only [k2, decide_false, br_false]
            by_cases k3 : c.kd = 3
            · rw [if_pos k3] at k
              simp only [k3, decide_true, br_true]
              refine sp_rSettle h ho (fun H5 h5 => ?_)
              exact k H5 h5
            · rw [if_neg k3] at k
              simp only [k3, decide_false, br_false]
              by_cases k9 : c.kd = 9
              · rw [if_pos k9] at k
                simp only [k9, decide_true, br_true]
                exact k H h
              · rw [if_neg k9] at k
                simp only [k9, decide_false, br_false, sp_rDo _ _ _ ho.inv, isTuple_tuple, vals_tuple, nthV_zero, nthV_one, isAgg_agg, aggCells_agg, R.fits_cs, R.open_cs, isK_int, getInt_int, Bool.or_false, Bool.and_self, req_true, f8, List.length_cons, List.length_nil, Nat.reduceAdd, beq_dec, decide_true]
                have h4 := g2.store (off := 2) (vs := (doR o.r x c).1.cs)
                have e2 : setMany (mcs q o.su.length cc q2 l.length c2 o.r) 2 (doR o.r x c).1.cs = mcs q o.su.length cc q2 l.length c2 (doR o.r x c).1 := rfl
                rw [e2] at h4
                exact k _ (Sat.unrefA (o := ⟨o.su, o.ps, (doR o.r x c).1⟩) (Sat.unref h4) hp)

theorem sp_rFall (h : Sat B H (RefA id o :: L)) (power : Bool) (k : ∀ H', Sat B H' (RefA id (fallO o power) :: L) → K (.tuple []) H') :
    Am.Rec.call (Am.Run env) 21 [.ptr (some (id, 0)), .bool power] H K := by
  obtain ⟨l, hp, g1⟩ := Sat.refA h
  obtain ⟨q, c, q2, c2, g2⟩ := Sat.ref g1
  obtain ⟨f1, f2, f3, f4, f5, f6, f7, f8⟩ := ref_facts g2.get
  rw [eq21]
  have h3 := g2.store (off := 1) (vs := [V.slice none 0 0])
  have e1 : setMany (mcs q o.su.length c q2 l.length c2 o.r) 1 [V.slice none 0 0] = mcs q o.su.length c none 0 0 o.r := rfl
  rw [e1] at h3
  obtain ⟨j1, j2, j3, j4, j5, j6, j7, j8⟩ := ref_facts h3.get
  simp only [Option.isSome_some, Option.getD_some, req_true, Nat.zero_add, f7, j5, j6, R.fits_cs, R.open_cs, Bool.and_self]
  generalize Am.Heap.store _ id 1 _ = H1 at h3 j1 j2 j3 j4 j5 j6 j7 j8
  have fin : ∀ (r' : R) H', Sat B H' (blk id 50 (mcs q o.su.length c none 0 0 r') :: Rw 9 1 q c (o.su.map st) :: Rw 96 2 q2 c2 (l.map wc) :: L) → Sat B H' (RefA id ⟨o.su, [], r'⟩ :: L) := by
    intro r' H' h'
    have h8 : Sat B H' (Rw 96 2 q2 c2 (l.map wc) :: blk id 50 (mcs q o.su.length c none 0 0 r') :: Rw 9 1 q c (o.su.map st) :: L) := h'.perm (by repeat (first | exact List.Perm.refl _ | refine pm_step 0 rfl ?_ | refine pm_step 1 rfl ?_ | refine pm_step 2 rfl ?_ | refine pm_step 3 rfl ?_ | refine pm_step 4 rfl ?_ | refine pm_step 5 rfl ?_ | refine pm_step 6 rfl ?_ | refine pm_step 7 rfl ?_ | refine pm_step 8 rfl ?_ | refine pm_step 9 rfl ?_))
    have h9 := h8.drop.rwNil 96 2
    exact Sat.unrefA (o := ⟨o.su, [], r'⟩) (l := []) (Sat.unref (l := []) (h9.perm (by repeat (first | exact List.Perm.refl _ | refine pm_step 0 rfl ?_ | refine pm_step 1 rfl ?_ | refine pm_step 2 rfl ?_ | refine pm_step 3 rfl ?_ | refine pm_step 4 rfl ?_ | refine pm_step 5 rfl ?_ | refine pm_step 6 rfl ?_ | refine pm_step 7 rfl ?_ | refine pm_step 8 rfl ?_ | refine pm_step 9 rfl ?_)))) (List.Perm.refl _)
  unfold fallO fallR at k
  cases power
  · simp only [br_false]
    exact k _ (fin _ _ h3)
  · have ew : Am.Rec.call (Am.Run env) 40 [.agg o.r.cs, .int .i64 0, .int .i64 1] H1 = fun K => K (.agg (fallR o.r true).cs) H1 := by
      funext K
      conv => lhs; unfold R.cs
      rw [eq40]
      unfold fallR
      cases hl : o.r.la <;> simp <;> rfl
    simp only [br_true, ew, isAgg_agg, aggCells_agg, R.fits_cs, R.open_cs, Bool.and_self, req_true, j8]
    have h4 := h3.store (off := 2) (vs := (fallR o.r true).cs)
    have e2 : setMany (mcs q o.su.length c none 0 0 o.r) 2 (fallR o.r true).cs = mcs q o.su.length c none 0 0 (fallR o.r true) := rfl
    rw [e2] at h4
    exact k _ (fin _ _ h4)

theorem sp_rNew (h : Sat B H L) {n : Nat} (h1 : 1 ≤ n) (h2 : n ≤ 65536) (k : ∀ mid H', Sat B H' (RefA mid (newO n) :: L) → K (.ptr (some (mid, 0))) H') :
    Am.Rec.call (Am.Run env) 15 [.int .i64 (n : Int)] H K := by
  rw [eq15]
  have e1 : 0 ≤ (n : Int) := by omega
  have e4 : (n : Int) * 17 ≤ 70368744177664 := by omega
  simp only [e1, e4, Int.le_refl, decide_true, Bool.and_self, req_true, Int.toNat_natCast]
  have a1 := h.alloc 9 (rowV n [V.str (strOf [])])
  have a2 := a1.alloc 50 (mcs (some (H.next, 0)) n n none 0 0 R.none0)
  have e5 : (List.replicate n ([] : List UInt8)).map st = List.replicate n [V.str (strOf [])] := by rw [List.map_replicate]; rfl
  have hu := st_uni (List.replicate n ([] : List UInt8))
  have hlen : (rowV n [V.str (strOf [])]).length = n := by rw [rep_flat, ← e5, flat_len hu]; simp
  have a3 := a2.swap
  have a4 : Sat B ((H.alloc (.cells 9 (rowV n [V.str (strOf [])]) false)).alloc (.cells 50 (mcs (some (H.next, 0)) n n none 0 0 R.none0) false))
      (Rw 9 1 (some (H.next, 0)) n ((List.replicate n ([] : List UInt8)).map st) :: blk (H.alloc (.cells 9 (rowV n [V.str (strOf [])]) false)).next 50 (mcs (some (H.next, 0)) n n none 0 0 R.none0) :: L) := by
    unfold Rw
    have hl : ((List.replicate n ([] : List UInt8)).map st).length = n := by simp
    rw [hl]
    refine a3.unbuf ?_ (flat_one hu) (Nat.le_refl _) (by rw [hlen]; omega) ?_
    · rw [flat_len hu]; simp
    · rw [e5, ← rep_flat, List.drop_zero, List.take_length]
  have a5 := a4.rwNil 96 2
  refine k _ _ (Sat.unrefA (o := newO n) (l := []) (Sat.unref (l := []) (q := some (H.next, 0)) (c := n) (q2 := none) (c2 := 0) ?_) (List.Perm.refl _))
  show Sat B _ (blk _ 50 (mcs (some (H.next, 0)) (List.replicate n ([] : List UInt8)).length n none 0 0 R.none0) :: _)
  rw [List.length_replicate]
  exact a5.perm (by repeat (first | exact List.Perm.refl _ | refine pm_step 0 rfl ?_ | refine pm_step 1 rfl ?_ | refine pm_step 2 rfl ?_ | refine pm_step 3 rfl ?_ | refine pm_step 4 rfl ?_ | refine pm_step 5 rfl ?_ | refine pm_step 6 rfl ?_ | refine pm_step 7 rfl ?_ | refine pm_step 8 rfl ?_ | refine pm_step 9 rfl ?_))

theorem sp_Same {s : Rs} (hr : RdB H q s.d) : Am.Rec.call (Am.Run env) 24 [.agg (s.cs q n), .int .i64 s.e, .str (strOf s.d), .agg s.r.cs] H K = K (.bool true) H := by
  conv => lhs; unfold Rs.cs R.cs
  rw [eq24]
  simp only [R.fold, decide_true, br_true, hr.strOk, hr.strAt, req_true, strEq_of, R.eq_self]

end

end Go.Proofs.Ytmionmlellimoaa
