/- Objects in memory: what they hold; the calls that only read. -/
import Derived.Test.YtmionmlellimoaaObjP
import Derived.Test.YtmionmlellimoaaEqsO
namespace Go.Proofs.Ytmionmlellimoaa
open Go.Am
set_option maxRecDepth 100000
set_option linter.unusedSimpArgs false
set_option linter.unusedVariables false
set_option linter.unusedSectionVars false

/-! Objects in memory: what they hold; the calls that only read. -/

theorem pm_step {L L' : List Ast} (n : Nat) (hn : Nat.blt n L.length = true) (h : (outA L n).Perm L') : L.Perm (nthA L n :: L') :=
  (outA_perm (Nat.le_of_ble_eq_true hn)).trans (h.cons _)


/-- A cell of a row's element. -/
theorem rd_cell {H : Am.Heap} {q : Option (Nat × Nat)} {css : List (List V)} {n : Nat} (hr : Rd H q css.flatten) (hu : Uni n css) {i k : Nat} (hi : i < css.length) (hk : k < n) :
    q.isSome = true ∧ H.inb (q.getD (0, 0)).1 ((q.getD (0, 0)).2 + i * n + k) 1 = true ∧ H.cell (q.getD (0, 0)).1 ((q.getD (0, 0)).2 + i * n + k) = Am.nthV css[i] k := by
  have hlen : css.flatten.length = css.length * n := flat_len hu
  have hle : i * n + n ≤ css.length * n := by
    have := Nat.mul_le_mul_right n (show i + 1 ≤ css.length by omega)
    rw [Nat.add_mul] at this
    omega
  have hne : css.flatten ≠ [] := by
    intro e; rw [e] at hlen; simp at hlen; omega
  refine ⟨hr.some hne, ?_, ?_⟩
  · have := hr.inb (i := i * n + k) (k := 1) (by omega) hne; rwa [← Nat.add_assoc] at this
  · have h1 := hr.cell (i := i * n + k) (by omega)
    rw [← Nat.add_assoc] at h1
    rw [h1]
    have hat : (css.flatten.drop (i * n)).take n = css[i] := flat_at hu hi
    rw [nthV_getD, nthV_getD, ← hat]
    simp only [List.getD_eq_getElem?_getD, List.getElem?_take, List.getElem?_drop, if_pos hk]

/-- An address's data in memory. -/
structure Sr where
  q : Option (Nat × Nat)
  c : Nat
  bs : List UInt8

def Sr.cs (s : Sr) : List V := [.slice s.q s.bs.length s.c]
def Sr.dat (s : Sr) : Ast := BY s.q s.c s.bs

theorem sr_uni (rs : List Sr) : Uni 1 (rs.map Sr.cs) := by
  intro c hc
  obtain ⟨r, _, rfl⟩ := List.mem_map.1 hc
  exact ⟨rfl, fun v hv => by rw [Sr.cs, List.mem_singleton] at hv; subst hv; rfl⟩

/-- An object's cells. -/
def ocs (q : Option (Nat × Nat)) (n c : Nat) (cid : Nat) (r : R) : List V := c68 q n c (some (cid, 0)) (r.k 0) (r.k 1) (r.k 2) (r.k 3) (r.k 4) (r.k 5) (r.k 6) (r.k 7) r.ty r.ho r.ge r.la

def ObjA (id : Nat) (o : Ob) : Ast :=
  exA fun rs : List Sr => exA fun q => exA fun c => exA fun cid => star (lft (rs.map Sr.bs = o.su)) (star (blk id 69 (ocs q o.su.length c cid o.r))
    (star (Rw 23 1 q c (rs.map Sr.cs)) (star (bigA (rs.map Sr.dat)) (CacheA cid o.ps))))

section
variable {B : Am.Heap} {L : List Ast} {H : Am.Heap} {K : V → Am.Heap → Prop} {id cid : Nat} {o : Ob} {q : Option (Nat × Nat)} {c n : Nat} {rs : List Sr} {r : R} {ps : List Pg}

theorem Sat.obj (h : Sat B H (ObjA id o :: L)) : ∃ (rs : List Sr) (q : Option (Nat × Nat)) (c cid : Nat), rs.map Sr.bs = o.su ∧
    Sat B H (blk id 69 (ocs q o.su.length c cid o.r) :: Rw 23 1 q c (rs.map Sr.cs) :: bigA (rs.map Sr.dat) :: CacheA cid o.ps :: L) := by
  obtain ⟨rs, h⟩ := h.ex1
  obtain ⟨q, h⟩ := h.ex1
  obtain ⟨c, h⟩ := h.ex1
  obtain ⟨cid, h⟩ := h.ex1
  obtain ⟨h1, h⟩ := h.star.lft
  have h2 := (h.star.swap.star.up 1).star
  simp only [nthA, outA] at h2
  have h3 := (h2.up 3).up 3
  simp only [nthA, outA] at h3
  exact ⟨rs, q, c, cid, h1, h3.swap⟩

theorem Sat.unobj (h : Sat B H (blk id 69 (ocs q o.su.length c cid o.r) :: Rw 23 1 q c (rs.map Sr.cs) :: bigA (rs.map Sr.dat) :: CacheA cid o.ps :: L)) (hrs : rs.map Sr.bs = o.su) :
    Sat B H (ObjA id o :: L) := by
  have h1 := (h.up 2).up 3
  simp only [nthA, outA] at h1
  have h2 := h1.swap.unstar.up 2
  simp only [nthA, outA] at h2
  have h3 := (h2.unstar.swap.unstar).pure hrs |>.unstar
  exact Sat.intro (Sat.intro (Sat.intro (Sat.intro h3)))

theorem Sat.unobjC (h2 : Sat B H (CacheA cid o.ps :: blk id 69 (ocs q o.su.length c cid o.r) :: Rw 23 1 q c (rs.map Sr.cs) :: bigA (rs.map Sr.dat) :: L)) (hrs : rs.map Sr.bs = o.su) :
    Sat B H (ObjA id o :: L) := by
  have h3 := ((h2.up 3).up 3).up 3
  simp only [nthA, outA] at h3
  exact Sat.unobj h3 hrs

theorem obj_facts (hg : H.get id = some (.cells 69 (ocs q n c cid r) false)) :
    H.inb id 0 1 = true ∧ H.cell id 0 = .slice q n c ∧ H.inb id 1 1 = true ∧ H.cell id 1 = .ptr (some (cid, 0)) ∧ H.inb id 2 12 = true ∧ H.sub id 2 12 = r.cs ∧
    H.inb id 13 1 = true ∧ H.cell id 13 = .bool r.la ∧ H.wr id 1 1 = true ∧ H.wr id 2 12 = true ∧ H.wr id 12 1 = true := by
  refine ⟨?_, ?_, ?_, ?_, ?_, ?_, ?_, ?_, ?_, ?_, ?_⟩
  · rw [inb_get hg]; rfl
  · rw [cell_get hg]; rfl
  · rw [inb_get hg]; rfl
  · rw [cell_get hg]; rfl
  · rw [inb_get hg]; rfl
  · rw [sub_get hg]; rfl
  · rw [inb_get hg]; rfl
  · rw [cell_get hg]; rfl
  · rw [wr_get hg]; rfl
  · rw [wr_get hg]; rfl
  · rw [wr_get hg]; rfl

theorem sp_oResv (h : Sat B H (ObjA id o :: L)) : Am.Rec.call (Am.Run env) 12 [.ptr (some (id, 0))] H K = K (.agg o.r.cs) H := by
  obtain ⟨rs, q, c, cid, hrs, h1⟩ := Sat.obj h
  obtain ⟨f1, f2, f3, f4, f5, f6, _⟩ := obj_facts h1.get
  rw [eq12]
  simp only [Option.isNone_some, Option.isSome_some, Option.getD_some, br_false, req_true, Nat.zero_add, f5, f6, R.fits_cs, R.open_cs, Bool.and_self]

theorem sp_oWaits (h : Sat B H (ObjA id o :: L)) : Am.Rec.call (Am.Run env) 19 [.ptr (some (id, 0))] H K = K (.int .i64 (o.ps.length : Int)) H := by
  obtain ⟨rs, q, c, cid, hrs, h1⟩ := Sat.obj h
  obtain ⟨f1, f2, f3, f4, _⟩ := obj_facts h1.get
  rw [eq19]
  have hc := h1.up 3
  simp only [nthA, outA] at hc
  simp only [Option.isNone_some, Option.isSome_some, Option.getD_some, br_false, req_true, Nat.zero_add, f3, f4, isK_ptr, getPtr_ptr, Bool.and_self]
  rw [sp_Len hc]
  simp only [isK_int, getInt_int, req_true]

theorem row_facts {rs : List Sr} (hr : Rd H q (rs.map Sr.cs).flatten) {i : Nat} (hi : i < rs.length) :
    q.isSome = true ∧ H.inb (q.getD (0, 0)).1 ((q.getD (0, 0)).2 + i * 1) 1 = true ∧ H.cell (q.getD (0, 0)).1 ((q.getD (0, 0)).2 + i * 1) = .slice rs[i].q rs[i].bs.length rs[i].c := by
  obtain ⟨a, b, c⟩ := rd_cell hr (sr_uni rs) (i := i) (k := 0) (by simpa using hi) (by omega)
  refine ⟨a, b, ?_⟩
  rw [Nat.add_zero] at c
  rw [c, List.getElem_map]
  rfl

theorem row_data {rs : List Sr} (h : Sat B H (bigA (rs.map Sr.dat) :: L)) {i : Nat} (hi : i < rs.length) : RdB H rs[i].q rs[i].bs := by
  have h1 := h.bigOut (i := i) (by simpa using hi)
  rw [List.getElem_map] at h1
  exact h1.bytRd

theorem sp_oSure (h : Sat B H (ObjA id o :: L)) (ho : o.ok) (a : Int) (k : ∀ q c H', Sat B H' (BY q c (sureO o a) :: ObjA id o :: L) → K (.slice q (sureO o a).length c) H') :
    Am.Rec.call (Am.Run env) 25 [.ptr (some (id, 0)), .int .i64 a] H K := by
  obtain ⟨rs, q, c, cid, hrs, h1⟩ := Sat.obj h
  obtain ⟨f1, f2, f3, f4, _⟩ := obj_facts h1.get
  have hl : rs.length = o.su.length := by rw [← hrs, List.length_map]
  rw [eq25]
  simp only [Option.isNone_some, Option.isSome_some, Option.getD_some, mergeR_ite, f1, f2, isK_slice, Bool.and_self, Bool.not_false, if_true, ite_self, reduceIte, req_true, cond_true, slLen_slice, slPtr_slice]
  unfold sureO at k
  by_cases hr : 0 ≤ a ∧ a < o.su.length
  · rw [if_pos hr] at k
    have e1 : ¬ a < 0 := by omega
    have e2 : ¬ a ≥ (o.su.length : Int) := by omega
    obtain ⟨g1, g2, g3⟩ := row_facts (h1.up 1).rwRd (show a.toNat < rs.length by omega)
    have hdat := row_data (h1.up 2) (show a.toNat < rs.length by omega)
    simp only [e1, e2, hr.1, hr.2, g1, g2, g3, decide_true, decide_false, Bool.not_false, cond_true, br_false, req_true, Bool.and_self, isK_slice, slPtr_slice, slLen_slice, slCap_slice]
    have hb : rs[a.toNat].bs = o.su.getD a.toNat [] := by
      rw [← hrs, List.getD_eq_getElem?_getD, List.getElem?_map, List.getElem?_eq_getElem (by omega)]
      rfl
    have hdl : rs[a.toNat].bs.length ≤ 64 := ho.dl _ (by rw [← hrs]; exact List.mem_map.2 ⟨_, List.getElem_mem _, rfl⟩)
    refine sp_Clone h hdat (by omega) (fun q' c' H' h' => ?_)
    simp only [isK_slice, slPtr_slice, slLen_slice, slCap_slice, req_true, hb] at h' ⊢
    exact k q' c' H' h'
  · rw [if_neg hr] at k
    have e : (bif !decide (a < 0) then decide (a ≥ (o.su.length : Int)) else true) = true := by
      by_cases h0 : a < 0
      · simp [h0]
      · have : a ≥ (o.su.length : Int) := by omega
        simp [this]
    rw [e, br_true]
    exact k none 0 H (bytNil h)

theorem sp_oNow (h : Sat B H (ObjA id o :: L)) (ho : o.ok) (a : Int) (k : ∀ q c H', Sat B H' (BY q c (nowO o a) :: ObjA id o :: L) → K (.slice q (nowO o a).length c) H') :
    Am.Rec.call (Am.Run env) 14 [.ptr (some (id, 0)), .int .i64 a] H K := by
  obtain ⟨rs, q, c, cid, hrs, h1⟩ := Sat.obj h
  obtain ⟨f1, f2, f3, f4, _⟩ := obj_facts h1.get
  have hl : rs.length = o.su.length := by rw [← hrs, List.length_map]
  have hn2 := ho.n2
  rw [eq14]
  simp only [Option.isNone_some, Option.isSome_some, Option.getD_some, mergeR_ite, f1, f2, isK_slice, Bool.and_self, Bool.not_false, if_true, ite_self, reduceIte, req_true, cond_true, slLen_slice, slPtr_slice]
  unfold nowO at k
  by_cases hr : 0 ≤ a ∧ a < o.su.length
  · rw [if_pos hr] at k
    have e1 : ¬ a < 0 := by omega
    have e2 : ¬ a ≥ (o.su.length : Int) := by omega
    simp only [e1, e2, decide_false, Bool.not_false, cond_true, br_false, req_true, Nat.zero_add, f3, f4, isK_ptr, getPtr_ptr, Bool.and_self]
    have hc := h1.up 3
    simp only [nthA, outA] at hc
    refine sp_Get hc ho.sort ho.le8 ⟨by omega, by omega⟩ (fun hn H2 h2 => ?_) (fun hp q5 c5 H2 hy he h2 => ?_)
    · have h3 : Sat B H2 (ObjA id o :: L) := Sat.unobjC h2 hrs
      have h4 := (h2.up 3).up 3
      simp only [nthA, outA] at h4
      have h5 := h4.up 3
      simp only [nthA, outA] at h5
      obtain ⟨k1, k2, _⟩ := obj_facts h5.get
      obtain ⟨g1, g2, g3⟩ := row_facts (h5.up 1).rwRd (show a.toNat < rs.length by omega)
      have hdat := row_data (h5.up 2) (show a.toNat < rs.length by omega)
      simp only [joinP_eq, br_true, br_false, req_true, look_cons, look_nil, reduceIte, reduceCtorEq, T_val_v, isKT_k, isKT_agg, isKT_lp, isLK_c, locCells_c, nthV_zero, nthV_one, nthV_two, vals_tuple, aggCells_agg, isAgg_agg, getInt_int, getBool_bool, getStr_str, getPtr_ptr, slPtr_slice, slLen_slice, slCap_slice, isK_int, isK_bool, isK_str, isK_ptr, isK_slice, isTuple_tuple, List.length_cons, List.length_nil, Bool.and_true, Bool.true_and, Bool.or_false, Bool.false_or, Bool.and_self, decide_true, decide_false, Bool.not_true, Bool.not_false, beq_dec, ble_dec, Nat.reduceAdd, Nat.reduceEqDiff, Nat.reduceEqDiff, f72, oc72, n72_0, n72_1, n72_2, k1, k2, Option.isSome_some, hr.1, hr.2, g1, g2, g3]
      have hb : rs[a.toNat].bs = o.su.getD a.toNat [] := by
        rw [← hrs, List.getD_eq_getElem?_getD, List.getElem?_map, List.getElem?_eq_getElem (by omega)]
        rfl
      have hdl : rs[a.toNat].bs.length ≤ 64 := ho.dl _ (by rw [← hrs]; exact List.mem_map.2 ⟨_, List.getElem_mem _, rfl⟩)
      have hg : getP o.ps a = none := getP_none.2 hn
      rw [hg] at k
      refine sp_Clone h3 hdat (by omega) (fun q' c' H' h' => ?_)
      simp only [isK_slice, slPtr_slice, slLen_slice, slCap_slice, req_true, hb] at h' ⊢
      exact k q' c' H' h'
    · have hg := getP_some ho.sort hy hp
      rw [hg] at k
      simp only [joinP_eq, br_true, br_false, req_true, look_cons, look_nil, reduceIte, reduceCtorEq, T_val_v, isKT_k, isKT_agg, isKT_lp, isLK_c, locCells_c, nthV_zero, nthV_one, nthV_two, vals_tuple, aggCells_agg, isAgg_agg, getInt_int, getBool_bool, getStr_str, getPtr_ptr, slPtr_slice, slLen_slice, slCap_slice, isK_int, isK_bool, isK_str, isK_ptr, isK_slice, isTuple_tuple, List.length_cons, List.length_nil, Bool.and_true, Bool.true_and, Bool.or_false, Bool.false_or, Bool.and_self, decide_true, decide_false, Bool.not_true, Bool.not_false, beq_dec, ble_dec, Nat.reduceAdd, Nat.reduceEqDiff, Nat.reduceEqDiff, f72, oc72, n72_0, n72_1, n72_2]
      refine k q5 c5 H2 ?_
      have h3 := (((h2.up 4).up 4).up 4).up 4
      simp only [nthA, outA] at h3
      exact (Sat.unobjC h3 hrs).swap
  · rw [if_neg hr] at k
    have e : (bif !decide (a < 0) then decide (a ≥ (o.su.length : Int)) else true) = true := by
      by_cases h0 : a < 0
      · simp [h0]
      · have : a ≥ (o.su.length : Int) := by omega
        simp [this]
    rw [e, br_true]
    exact k none 0 H (bytNil h)

end

/-! Objects in memory: the calls that change them. -/

section
variable {B : Am.Heap} {L : List Ast} {H : Am.Heap} {K : V → Am.Heap → Prop} {id cid : Nat} {o : Ob} {q : Option (Nat × Nat)} {c n : Nat} {rs : List Sr} {r : R} {ps : List Pg}

theorem wrap_succ' {i : Nat} (h : i < 1000000) : IntKind.i64.wrap ((i : Int) + 1) = ((i + 1 : Nat) : Int) := by rw [wrap_in (by omega) (by omega)]; omega

/-- An address's data are others. -/
theorem row_put {q5 : Option (Nat × Nat)} {c5 : Nat} {bs : List UInt8} {D : Ast} {a : Nat} (ha : a < rs.length) (h : Sat B H (BY q5 c5 bs :: D :: Rw 23 1 q c (rs.map Sr.cs) :: bigA (rs.map Sr.dat) :: L)) :
    H.wr (q.getD (0, 0)).1 ((q.getD (0, 0)).2 + a * 1) 1 = true ∧
    Sat B (H.store (q.getD (0, 0)).1 ((q.getD (0, 0)).2 + a * 1) [V.slice q5 bs.length c5]) (D :: Rw 23 1 q c ((rs.set a ⟨q5, c5, bs⟩).map Sr.cs) :: bigA ((rs.set a ⟨q5, c5, bs⟩).map Sr.dat) :: L) := by
  have h1 := h.up 2
  simp only [nthA, outA] at h1
  obtain ⟨w1, w2⟩ := h1.rwSet (sr_uni rs) (i := a) (by simpa using ha) (c := [V.slice q5 bs.length c5]) rfl (fun v hv => by rw [List.mem_singleton] at hv; subst hv; rfl)
  refine ⟨w1, ?_⟩
  have h2 := w2.up 3
  simp only [nthA, outA] at h2
  have h3 := (h2.bigOut (i := a) (by simpa using ha)).drop.up 2
  simp only [nthA, outA] at h3
  have h4 := (h3.bigIn (by simpa using ha)).up 1
  simp only [nthA, outA] at h4
  have h5 := h4.up 2
  simp only [nthA, outA] at h5
  rw [List.map_set, List.map_set]
  exact h5

theorem drop_head {p : Pg} {ps : List Pg} (hs : SortP (p :: ps)) : dropP (p :: ps) p.addr = ps := by
  rw [drop_filter hs.up, List.filter_cons]
  simp only [decide_true, Bool.not_true, Bool.false_eq_true, if_false]
  rw [List.filter_eq_self]
  intro x hx
  have := (List.pairwise_cons.1 hs.up).1 x hx
  have : ¬ x.addr = p.addr := by omega
  simp [this]

theorem lp_flush {al : List Rp} {q8 : Option (Nat × Nat)} {c8 N : Nat} (hN : N ≤ 65536) (hb : al.length ≤ 8) (hs : SortP (al.map Rp.p)) (hin : ∀ r ∈ al, r.p.addr < N) {Kr : Am.St → Prop} {Ke : Nat → Am.St → Prop} :
    ∀ (m i : Nat) {rs : List Sr} {H : Am.Heap}, i + m = al.length → rs.length = N →
    Sat B H (Rw 73 3 q8 c8 (al.map Rp.cs) :: bigA ((al.drop i).map Rp.dat) :: blk id 69 (ocs q N c cid r) :: Rw 23 1 q c (rs.map Sr.cs) :: bigA (rs.map Sr.dat) :: CacheA cid ((al.drop i).map Rp.p) :: L) →
    (∀ (rs' : List Sr) H', rs'.map Sr.bs = flushS (rs.map Sr.bs) ((al.drop i).map Rp.p) →
      Sat B H' (blk id 69 (ocs q N c cid r) :: Rw 23 1 q c (rs'.map Sr.cs) :: bigA (rs'.map Sr.dat) :: CacheA cid [] :: L) → Ke 0 (St.mk (Am.look []) (Am.look []) H')) →
    Am.Rec.loop (Am.Run env) (Am.loopAt env 29 1) 29 1
      (St.mk (Am.look [(0, T.v (V.ptr (some (id, 0)))), (8, T.v (V.slice q8 al.length c8)), (9, T.v (V.int .i64 (al.length : Int))), (10, T.v (V.int .i64 (i : Int)))]) (Am.look []) H) Kr Ke
  | 0, i, rs, H, hi, hl, h, k => by
    rw [lp29_1]
    have e1 : ¬ (i : Int) < (al.length : Int) := by omega
    rw [decide_eq_false e1, br_false]
    have e2 : al.drop i = [] := List.drop_of_length_le (by omega)
    rw [e2] at h k
    exact k rs H rfl h.drop.drop
  | m + 1, i, rs, H, hi, hl, h, k => by
    have hlt : i < al.length := by omega
    obtain ⟨s1, s2, s3⟩ := read_page h.rwRd hlt
    have hb2 := h.up 2
    simp only [nthA, outA] at hb2
    obtain ⟨f1, f2, f3, f4, _⟩ := obj_facts hb2.get
    have e1 : (i : Int) < (al.length : Int) := by omega
    have e2 : 0 ≤ (i : Int) := by omega
    have hmem : al[i].p ∈ al.map Rp.p := List.mem_map.2 ⟨_, List.getElem_mem hlt, rfl⟩
    have hlo := hs.lo _ hmem
    have hhi := hin _ (List.getElem_mem hlt)
    have hdr : al.drop i = al[i] :: al.drop (i + 1) := List.drop_eq_getElem_cons hlt
    rw [hdr] at h k
    simp only [List.map_cons] at h k
    have hs2 : SortP (al[i].p :: (al.drop (i + 1)).map Rp.p) := by
      have hsub : (al[i].p :: (al.drop (i + 1)).map Rp.p).Sublist (al.map Rp.p) := by
        rw [← List.map_cons, ← hdr]
        exact (List.drop_sublist i al).map _
      exact ⟨hs.up.sublist hsub, fun p hp => hs.lo p (hsub.subset hp), fun p hp => hs.dl p (hsub.subset hp)⟩
    -- the data out of what All has told, into the object's
    have h1 := (h.up 1).unbigCons
    simp only [nthA, outA] at h1
    have h2 : Sat B H (BY al[i].q al[i].c al[i].p.data :: bigA ((al.drop (i + 1)).map Rp.dat) :: Rw 73 3 q8 c8 (al.map Rp.cs) :: blk id 69 (ocs q N c cid r) :: Rw 23 1 q c (rs.map Sr.cs) :: bigA (rs.map Sr.dat) ::
      CacheA cid (al[i].p :: (al.drop (i + 1)).map Rp.p) :: L) := h1
    have h4 : Sat B H (BY al[i].q al[i].c al[i].p.data :: blk id 69 (ocs q N c cid r) :: Rw 23 1 q c (rs.map Sr.cs) :: bigA (rs.map Sr.dat) ::
      CacheA cid (al[i].p :: (al.drop (i + 1)).map Rp.p) :: Rw 73 3 q8 c8 (al.map Rp.cs) :: bigA ((al.drop (i + 1)).map Rp.dat) :: L) := h2.perm (by repeat (first | exact List.Perm.refl _ | refine pm_step 0 rfl ?_ | refine pm_step 1 rfl ?_ | refine pm_step 2 rfl ?_ | refine pm_step 3 rfl ?_ | refine pm_step 4 rfl ?_ | refine pm_step 5 rfl ?_ | refine pm_step 6 rfl ?_ | refine pm_step 7 rfl ?_ | refine pm_step 8 rfl ?_ | refine pm_step 9 rfl ?_))
    have ha : al[i].p.addr.toNat < rs.length := by omega
    obtain ⟨w1, w2⟩ := row_put ha h4
    rw [lp29_1]
    have n0 : Am.nthV al[i].cs 0 = .int .i64 al[i].p.addr := rfl
    have n1 : Am.nthV al[i].cs 1 = .slice al[i].q al[i].p.data.length al[i].c := rfl
    have g1 : al[i].p.addr < (N : Int) := hhi
    have hsm : q.isSome = true := (row_facts (h4.up 2).rwRd ha).1
    obtain ⟨j1, j2, j3, j4, _⟩ := obj_facts w2.get
    simp only [e1, e2, s1, s2, s3, Rp.fits, n0, n1, decide_true, br_true, Bool.and_self, req_true, Int.toNat_natCast, getInt_int, slPtr_slice, slLen_slice, slCap_slice, Option.isSome_some, Option.getD_some, f1, f2, isK_slice,
      hlo.1, g1, hsm, w1, Nat.zero_add, j3, j4, isK_ptr, getPtr_ptr]
    rw [wrap_succ' (by omega)]
    generalize Am.Heap.store H _ _ _ = H1 at w2 j3 j4
    have h5 := w2.up 3
    simp only [nthA, outA] at h5
    refine sp_Drop h5 hs2 (by simp; omega) ⟨by omega, by omega⟩ (fun H2 h6 => ?_)
    rw [drop_head hs2] at h6
    refine lp_flush hN hb hs hin m (i + 1) (rs := rs.set al[i].p.addr.toNat ⟨al[i].q, al[i].c, al[i].p.data⟩) (by omega) (by rw [List.length_set]; exact hl) (h6.perm (by repeat (first | exact List.Perm.refl _ | refine pm_step 0 rfl ?_ | refine pm_step 1 rfl ?_ | refine pm_step 2 rfl ?_ | refine pm_step 3 rfl ?_ | refine pm_step 4 rfl ?_ | refine pm_step 5 rfl ?_ | refine pm_step 6 rfl ?_ | refine pm_step 7 rfl ?_ | refine pm_step 8 rfl ?_ | refine pm_step 9 rfl ?_))) (fun rs' H' e h' => ?_)
    refine k rs' H' ?_ h'
    rw [e, List.map_set]
    rfl

theorem sp_flush (h : Sat B H (ObjA id o :: L)) (ho : o.ok) (k : ∀ H', Sat B H' (ObjA id (flushO o) :: L) → K (.tuple []) H') :
    Am.Rec.call (Am.Run env) 29 [.ptr (some (id, 0))] H K := by
  obtain ⟨rs, q, c, cid, hrs, h1⟩ := Sat.obj h
  obtain ⟨f1, f2, f3, f4, _⟩ := obj_facts h1.get
  rw [eq29]
  simp only [Option.isSome_some, Option.getD_some, req_true, Nat.zero_add, f3, f4, isK_ptr, getPtr_ptr, Bool.and_self]
  have h2 := h1.up 3
  simp only [nthA, outA] at h2
  have hl8 := ho.le8
  refine sp_All h2 ho.sort hl8 (fun q8 c8 H3 h3 => ?_)
  obtain ⟨al, hal, h4⟩ := Sat.pages h3
  have hla : al.length = o.ps.length := by rw [← hal, List.length_map]
  simp only [isK_slice, slPtr_slice, slLen_slice, slCap_slice, req_true]
  rw [← hla]
  have h5 : Sat B H3 (Rw 73 3 q8 c8 (al.map Rp.cs) :: bigA ((al.drop 0).map Rp.dat) :: blk id 69 (ocs q o.su.length c cid o.r) :: Rw 23 1 q c (rs.map Sr.cs) :: bigA (rs.map Sr.dat) :: CacheA cid ((al.drop 0).map Rp.p) :: L) := by
    rw [List.drop_zero, hal]
    exact h4.perm (by repeat (first | exact List.Perm.refl _ | refine pm_step 0 rfl ?_ | refine pm_step 1 rfl ?_ | refine pm_step 2 rfl ?_ | refine pm_step 3 rfl ?_ | refine pm_step 4 rfl ?_ | refine pm_step 5 rfl ?_ | refine pm_step 6 rfl ?_ | refine pm_step 7 rfl ?_ | refine pm_step 8 rfl ?_ | refine pm_step 9 rfl ?_))
  refine lp_flush ho.n2 (by omega) (by rw [hal]; exact ho.sort) (fun x hx => ho.inr _ (by rw [← hal]; exact List.mem_map.2 ⟨_, hx, rfl⟩)) al.length 0 (by omega) (by rw [← hrs, List.length_map]) h5 (fun rs' H' e h' => ?_)
  have e0 : Nat.beq 0 0 = true := rfl
  rw [e0, br_true]
  refine k H' (Sat.unobj (o := flushO o) (rs := rs') (q := q) (c := c) (cid := cid) ?_ ?_)
  · show Sat B H' (blk id 69 (ocs q (flushS o.su o.ps).length c cid o.r) :: _)
    rw [flushS_len]
    exact h'
  · rw [e, hrs, List.drop_zero, hal]; rfl

theorem sp_put (h : Sat B H (ObjA id o :: L)) (ho : o.ok) (p : Pg) {qp : Option (Nat × Nat)} {cp : Nat} (h0 : 0 ≤ p.addr) (h1 : p.addr < o.su.length) (hd : p.data.length ≤ 64) (hr : Rds B L qp p.data) (sure : Bool)
    (k : ∀ H', Sat B H' (ObjA id (putO o p sure) :: L) → K (.tuple []) H') :
    Am.Rec.call (Am.Run env) 28 [.ptr (some (id, 0)), .agg (c72 p.addr qp p.data.length cp p.hole), .bool sure] H K := by
  obtain ⟨rs, q, c, cid, hrs, g1⟩ := Sat.obj h
  obtain ⟨f1, f2, f3, f4, _⟩ := obj_facts g1.get
  have hn2 := ho.n2
  have hl : rs.length = o.su.length := by rw [← hrs, List.length_map]
  rw [eq28]
  simp only [Option.isSome_some, Option.getD_some, req_true, Nat.zero_add, f3, f4, isK_ptr, getPtr_ptr, Bool.and_self]
  have g2 := g1.up 3
  simp only [nthA, outA] at g2
  cases sure
  · rw [br_false]
    have hres := put_res ho.le8 h0 (by omega) hd
    unfold putO at k
    simp only [Bool.false_eq_true, if_false] at k
    refine sp_Put g2 ho.sort ho.le8 p ⟨by omega, by omega⟩ (fun _ => hr H h.drop) (fun H2 h2 => ?_)
    simp only [isK_int, getInt_int, req_true]
    by_cases hb : (putP o.ps p).2 = 11
    · rw [if_pos hb] at k
      simp only [hb, decide_true, br_true]
      rw [put_full hb] at h2
      have h3 : Sat B H2 (ObjA id o :: L) := Sat.unobjC h2 hrs
      refine sp_flush h3 ho (fun H4 h4 => ?_)
      have hf := ok_flush ho
      obtain ⟨rs5, q5, c5, cid5, hrs5, h5⟩ := Sat.obj h4
      obtain ⟨j1, j2, j3, j4, _⟩ := obj_facts h5.get
      simp only [req_true, j3, j4, isK_ptr, getPtr_ptr, Bool.and_self]
      have h6 := h5.up 3
      simp only [nthA, outA] at h6
      refine sp_Put h6 sortNil (by simp [flushO]) p ⟨by omega, by omega⟩ (fun _ => hr H4 h4.drop) (fun H7 h7 => ?_)
      simp only [isK_int, req_true]
      exact k H7 (Sat.unobjC (o := ⟨flushS o.su o.ps, (putP [] p).1, o.r⟩) h7 hrs5)
    · rw [if_neg hb] at k
      simp only [hb, decide_false, br_false]
      exact k H2 (Sat.unobjC (o := ⟨o.su, (putP o.ps p).1, o.r⟩) h2 hrs)
  · rw [br_true]
    unfold putO at k
    simp only [if_true] at k
    refine sp_Drop g2 ho.sort ho.le8 ⟨by omega, by omega⟩ (fun H2 h2 => ?_)
    have h3 : Sat B H2 (blk id 69 (ocs q o.su.length c cid o.r) :: Rw 23 1 q c (rs.map Sr.cs) :: bigA (rs.map Sr.dat) :: CacheA cid (dropP o.ps p.addr) :: L) := h2.perm (by repeat (first | exact List.Perm.refl _ | refine pm_step 0 rfl ?_ | refine pm_step 1 rfl ?_ | refine pm_step 2 rfl ?_ | refine pm_step 3 rfl ?_ | refine pm_step 4 rfl ?_ | refine pm_step 5 rfl ?_ | refine pm_step 6 rfl ?_ | refine pm_step 7 rfl ?_ | refine pm_step 8 rfl ?_ | refine pm_step 9 rfl ?_))
    obtain ⟨j1, j2, _⟩ := obj_facts h3.get
    have ha : p.addr.toNat < rs.length := by omega
    have hsm : q.isSome = true := (row_facts (h3.up 1).rwRd ha).1
    have hrd : RdB H2 qp p.data := hr H2 h3.drop.drop.drop.drop
    have fin : ∀ q' c' H', Sat B H' (BY q' c' p.data :: blk id 69 (ocs q o.su.length c cid o.r) :: Rw 23 1 q c (rs.map Sr.cs) :: bigA (rs.map Sr.dat) :: CacheA cid (dropP o.ps p.addr) :: L) →
        H'.inb id 0 1 = true ∧ H'.cell id 0 = .slice q o.su.length c ∧ H'.wr (q.getD (0, 0)).1 ((q.getD (0, 0)).2 + p.addr.toNat * 1) 1 = true ∧
        K (.tuple []) (H'.store (q.getD (0, 0)).1 ((q.getD (0, 0)).2 + p.addr.toNat * 1) [V.slice q' p.data.length c']) := by
      intro q' c' H' h'
      have h8 := h'.up 1
      simp only [nthA, outA] at h8
      obtain ⟨i1, i2, _⟩ := obj_facts h8.get
      obtain ⟨w1, w2⟩ := row_put ha h'
      refine ⟨i1, i2, w1, k _ (Sat.unobj (q := q) (c := c) (cid := cid) (o := ⟨o.su.set p.addr.toNat p.data, dropP o.ps p.addr, o.r⟩) (rs := rs.set p.addr.toNat ⟨q', c', p.data⟩) ?_ ?_)⟩
      · show Sat B _ (blk id 69 (ocs q (o.su.set p.addr.toNat p.data).length c cid o.r) :: _)
        rw [List.length_set]
        exact w2
      · rw [List.map_set, hrs]
    have e2 : p.addr < (o.su.length : Int) := h1
    simp only [joinP_eq, j1, j2, isK_slice, Bool.and_self, req_true, slLen_slice, slPtr_slice, h0, e2, hsm, decide_true]
    refine ⟨?_, ?_⟩
    · refine sp_Clone h3 hrd (by omega) (fun q' c' H' h' => ?_)
      obtain ⟨i1, i2, w1, w2⟩ := fin q' c' H' h'
      simp only [isK_slice, req_true, slLen_slice, slPtr_slice, slCap_slice, w1]
      exact w2
    · refine sp_Clone h3 hrd (by omega) (fun q' c' H' h' => ?_)
      obtain ⟨i1, i2, w1, w2⟩ := fin q' c' H' h'
      simp only [isK_slice, req_true, slLen_slice, slPtr_slice, slCap_slice, i1, i2, Bool.and_self, h0, e2, hsm, decide_true, w1]
      exact w2

theorem new_cache (h : Sat B H L) : Sat B (H.alloc (.cells 67 [.slice none 0 0] false)) (CacheA H.next [] :: L) := by
  have h1 := h.alloc 67 [V.slice none 0 0]
  have h2 : Sat B (H.alloc (.cells 67 [.slice none 0 0] false)) (Rw 73 3 none 0 (([] : List Rp).map Rp.cs) :: bigA (([] : List Rp).map Rp.dat) :: blk H.next 67 [V.slice none 0 0] :: L) := h1.bigNil.rwNil _ _
  have h3 := h2.up 2
  simp only [nthA, outA] at h3
  exact Sat.uncache (rs := []) h3

theorem fold_r (r : R) : ∀ q n c cid, c68 q n c (some (cid, 0)) (r.k 0) (r.k 1) (r.k 2) (r.k 3) (r.k 4) (r.k 5) (r.k 6) (r.k 7) r.ty r.ho r.ge r.la = ocs q n c cid r := fun _ _ _ _ => rfl

theorem sp_oFall (h : Sat B H (ObjA id o :: L)) (power : Bool) (k : ∀ H', Sat B H' (ObjA id (fallO o power) :: L) → K (.tuple []) H') :
    Am.Rec.call (Am.Run env) 20 [.ptr (some (id, 0)), .bool power] H K := by
  rw [eq20]
  obtain ⟨rs, q, c, cid, hrs, h1⟩ := Sat.obj h
  have h2 := (new_cache h1).up 1
  simp only [nthA, outA] at h2
  obtain ⟨f1, f2, f3, f4, f5, f6, f7, f8, f9, _⟩ := obj_facts h2.get
  have h3 := h2.store (off := 1) (vs := [V.ptr (some (H.next, 0))])
  have e1 : setMany (ocs q o.su.length c cid o.r) 1 [V.ptr (some (H.next, 0))] = ocs q o.su.length c H.next o.r := rfl
  rw [e1] at h3
  obtain ⟨j1, j2, j3, j4, j5, j6, j7, j8, j9, j10, j11⟩ := obj_facts h3.get
  simp only [Option.isNone_some, Option.isSome_some, Option.getD_some, br_false, req_true, Nat.zero_add, f9, Nat.reduceAdd, j7, j8, isK_bool, getBool_bool, Bool.and_self, mergeR_ite, ite_self, reduceIte]
  generalize Am.Heap.store _ id 1 _ = H1 at h3 j1 j2 j3 j4 j5 j6 j7 j8 j9 j10 j11
  have fin : ∀ (r' : R) H', Sat B H' (blk id 69 (ocs q o.su.length c H.next r') :: CacheA H.next [] :: Rw 23 1 q c (rs.map Sr.cs) :: bigA (rs.map Sr.dat) :: CacheA cid o.ps :: L) → Sat B H' (ObjA id ⟨o.su, [], r'⟩ :: L) := by
    intro r' H' h'
    have h8 : Sat B H' (CacheA cid o.ps :: CacheA H.next [] :: blk id 69 (ocs q o.su.length c H.next r') :: Rw 23 1 q c (rs.map Sr.cs) :: bigA (rs.map Sr.dat) :: L) := h'.perm (by repeat (first | exact List.Perm.refl _ | refine pm_step 0 rfl ?_ | refine pm_step 1 rfl ?_ | refine pm_step 2 rfl ?_ | refine pm_step 3 rfl ?_ | refine pm_step 4 rfl ?_ | refine pm_step 5 rfl ?_ | refine pm_step 6 rfl ?_ | refine pm_step 7 rfl ?_ | refine pm_step 8 rfl ?_ | refine pm_step 9 rfl ?_))
    exact Sat.unobjC (o := ⟨o.su, [], r'⟩) h8.drop hrs
  unfold fallO fallR at k
  cases power
  · simp only [Bool.false_and, br_false]
    exact k _ (fin _ _ h3)
  · cases hla : o.r.la
    · simp only [Bool.not_false, Bool.and_self, br_true, sp_None]
      simp only [hla, Bool.false_eq_true, if_false, if_true] at k
      have h4 := h3.store (off := 2) (vs := R.none0.cs)
      have e2 : setMany (ocs q o.su.length c H.next o.r) 2 R.none0.cs = ocs q o.su.length c H.next R.none0 := rfl
      rw [e2] at h4
      have e3 : (⟨fun _ => 0, 0, -1, 0, false⟩ : R) = R.none0 := rfl
      simp only [e3, isAgg_agg, aggCells_agg, R.fits_cs, R.open_cs, Bool.and_self, req_true, j10]
      exact k _ (fin _ _ h4)
    · simp only [Bool.not_true, Bool.and_false, br_false, br_true, j11, req_true]
      simp only [hla, if_true] at k
      have h4 := h3.store (off := 12) (vs := [V.int .u32 0])
      have e2 : setMany (ocs q o.su.length c H.next o.r) 12 [V.int .u32 0] = ocs q o.su.length c H.next ⟨o.r.k, o.r.ty, o.r.ho, 0, true⟩ := by rw [← hla]; rfl
      rw [e2] at h4
      exact k _ (fin _ _ h4)

theorem rep_flat (n : Nat) (z : List V) : rowV n z = (List.replicate n z).flatten := by
  unfold rowV
  induction n with
  | zero => rfl
  | succ n ih => rw [List.replicate_succ, List.flatten_cons, ← ih]; rfl

theorem big_nils (n : Nat) (h : Sat B H L) : Sat B H (bigA ((List.replicate n (⟨none, 0, []⟩ : Sr)).map Sr.dat) :: L) := by
  induction n with
  | zero => exact h.bigNil
  | succ n ih =>
    rw [List.replicate_succ, List.map_cons]
    exact (bytNil ih).bigCons

theorem new_fin {oid a b : Nat} (hn : 1 ≤ n) (h : Sat B H (blk oid 69 (ocs (some (a, 0)) n n b R.none0) :: blk a 23 (rowV n [V.slice none 0 0]) :: CacheA b [] :: L)) : Sat B H (ObjA oid (newO n) :: L) := by
  have h1 : Sat B H (blk a 23 (rowV n [V.slice none 0 0]) :: CacheA b [] :: blk oid 69 (ocs (some (a, 0)) n n b R.none0) :: L) := h.perm (by repeat (first | exact List.Perm.refl _ | refine pm_step 0 rfl ?_ | refine pm_step 1 rfl ?_ | refine pm_step 2 rfl ?_ | refine pm_step 3 rfl ?_ | refine pm_step 4 rfl ?_ | refine pm_step 5 rfl ?_ | refine pm_step 6 rfl ?_ | refine pm_step 7 rfl ?_ | refine pm_step 8 rfl ?_ | refine pm_step 9 rfl ?_))
  have e1 : (List.replicate n (⟨none, 0, []⟩ : Sr)).map Sr.cs = List.replicate n [V.slice none 0 0] := by rw [List.map_replicate]; rfl
  have hu := sr_uni (List.replicate n (⟨none, 0, []⟩ : Sr))
  have hlen : (rowV n [V.slice none 0 0]).length = n := by rw [rep_flat, ← e1, flat_len hu]; simp
  have h2 : Sat B H (Rw 23 1 (some (a, 0)) n ((List.replicate n (⟨none, 0, []⟩ : Sr)).map Sr.cs) :: CacheA b [] :: blk oid 69 (ocs (some (a, 0)) n n b R.none0) :: L) := by
    unfold Rw
    have hl : ((List.replicate n (⟨none, 0, []⟩ : Sr)).map Sr.cs).length = n := by simp
    rw [hl]
    refine h1.unbuf ?_ (flat_one hu) (Nat.le_refl _) (by rw [hlen]; omega) ?_
    · rw [flat_len hu]; simp
    · rw [e1, ← rep_flat, List.drop_zero, List.take_length]
  have h3 := big_nils n h2
  have h4 : Sat B H (blk oid 69 (ocs (some (a, 0)) n n b R.none0) :: Rw 23 1 (some (a, 0)) n ((List.replicate n (⟨none, 0, []⟩ : Sr)).map Sr.cs) :: bigA ((List.replicate n (⟨none, 0, []⟩ : Sr)).map Sr.dat) :: CacheA b [] :: L) := h3.perm (by repeat (first | exact List.Perm.refl _ | refine pm_step 0 rfl ?_ | refine pm_step 1 rfl ?_ | refine pm_step 2 rfl ?_ | refine pm_step 3 rfl ?_ | refine pm_step 4 rfl ?_ | refine pm_step 5 rfl ?_ | refine pm_step 6 rfl ?_ | refine pm_step 7 rfl ?_ | refine pm_step 8 rfl ?_ | refine pm_step 9 rfl ?_))
  refine Sat.unobj (o := newO n) (q := some (a, 0)) (c := n) (cid := b) (rs := List.replicate n ⟨none, 0, []⟩) ?_ ?_
  · show Sat B H (blk oid 69 (ocs (some (a, 0)) (List.replicate n ([] : List UInt8)).length n b R.none0) :: _)
    rw [List.length_replicate]
    exact h4
  · rw [List.map_replicate]; rfl

theorem sp_oNew (h : Sat B H L) {x : Int} (h1 : 1 ≤ x) (h2 : x ≤ 65536) (k : ∀ oid H', Sat B H' (ObjA oid (newO x.toNat) :: L) → K (.tuple [.ptr (some (oid, 0)), .int .i64 0]) H') :
    Am.Rec.call (Am.Run env) 10 [.int .i64 x] H K := by
  rw [eq10]
  have e1 : ¬ x < 1 := by omega
  have e2 : ¬ x > 65536 := by omega
  have e3 : 0 ≤ x := by omega
  have e4 : x * 25 ≤ 70368744177664 := by omega
  have e5 : (⟨fun _ => 0, 0, -1, 0, false⟩ : R) = R.none0 := rfl
  have e6 : R.none0.cs = c37 0 0 0 0 0 0 0 0 0 (-1) 0 false := rfl
  simp only [e1, e2, decide_false, Bool.not_false, cond_true, br_false, e3, Int.le_refl, e4, decide_true, Bool.and_self, req_true, joinP_eq, sp_None, e5, e6, joinP_eq, br_true, br_false, req_true, look_cons, look_nil, reduceIte, reduceCtorEq, T_val_v, isKT_k, isKT_agg, isKT_lp, isLK_c, locCells_c, nthV_zero, nthV_one, nthV_two, vals_tuple, aggCells_agg, isAgg_agg, getInt_int, getBool_bool, getStr_str, getPtr_ptr, slPtr_slice, slLen_slice, slCap_slice, isK_int, isK_bool, isK_str, isK_ptr, isK_slice, isTuple_tuple, List.length_cons, List.length_nil, Bool.and_true, Bool.true_and, Bool.or_false, Bool.false_or, Bool.and_self, decide_true, decide_false, Bool.not_true, Bool.not_false, beq_dec, ble_dec, Nat.reduceAdd, Nat.reduceEqDiff, Nat.reduceEqDiff, f37, oc37, n37_0, n37_1, n37_2, n37_3, n37_4, n37_5, n37_6, n37_7, n37_8, n37_9, n37_10, n37_11]
  have hn : 1 ≤ x.toNat := by omega
  have a1 := h.alloc 23 (rowV x.toNat [V.slice none 0 0])
  have a2 := new_cache a1
  have a3 := a2.alloc 69 (ocs (some (H.next, 0)) x.toNat x.toNat (H.alloc (.cells 23 (rowV x.toNat [V.slice none 0 0]) false)).next R.none0)
  have wa := k _ _ (new_fin hn (a3.perm (by repeat (first | exact List.Perm.refl _ | refine pm_step 0 rfl ?_ | refine pm_step 1 rfl ?_ | refine pm_step 2 rfl ?_ | refine pm_step 3 rfl ?_ | refine pm_step 4 rfl ?_ | refine pm_step 5 rfl ?_ | refine pm_step 6 rfl ?_ | refine pm_step 7 rfl ?_ | refine pm_step 8 rfl ?_ | refine pm_step 9 rfl ?_))))
  have b1 := new_cache h
  have b2 := b1.alloc 23 (rowV x.toNat [V.slice none 0 0])
  have b3 := b2.alloc 69 (ocs (some ((H.alloc (.cells 67 [V.slice none 0 0] false)).next, 0)) x.toNat x.toNat H.next R.none0)
  have wb := k _ _ (new_fin hn (b3.perm (by repeat (first | exact List.Perm.refl _ | refine pm_step 0 rfl ?_ | refine pm_step 1 rfl ?_ | refine pm_step 2 rfl ?_ | refine pm_step 3 rfl ?_ | refine pm_step 4 rfl ?_ | refine pm_step 5 rfl ?_ | refine pm_step 6 rfl ?_ | refine pm_step 7 rfl ?_ | refine pm_step 8 rfl ?_ | refine pm_step 9 rfl ?_))))
  exact ⟨⟨wa, wa⟩, ⟨wb, wb⟩, wa, wb⟩

theorem sp_Valid (x : Int) (c : Cm) (n : Int) : Am.Rec.call (Am.Run env) 27 [.int .i64 x, .agg c.cs, .int .i64 n] H K =
    K (.bool (decide (0 ≤ x) && (decide (x < 8) && (decide (c.kd ≤ 9) && ((!(decide (c.kd = 0) || (decide (c.kd = 1) || decide (c.kd = 2))) || decide (0 ≤ c.lba) && decide (c.lba < n)) && (!decide (c.kd = 1) || decide ((c.dn : Int) ≤ 64))))))) H := by
  conv => lhs; unfold Cm.cs
  rw [eq27]
  simp only [ge_iff_le]
  congr 2
  generalize decide (0 ≤ x) = b1
  generalize decide (x < 8) = b2
  generalize decide (c.kd ≤ 9) = b3
  generalize decide (c.kd = 0) = b4
  generalize decide (c.kd = 1) = b5
  generalize decide (c.kd = 2) = b6
  generalize decide (0 ≤ c.lba) = b7
  generalize decide (c.lba < n) = b8
  generalize decide ((c.dn : Int) ≤ 64) = b9
  cases b1 <;> cases b2 <;> cases b3 <;> cases b4 <;> cases b5 <;> cases b6 <;> cases b7 <;> cases b8 <;> cases b9 <;> rfl

theorem valid_eq (x : Int) (c : Cm) (n : Nat) : (decide (0 ≤ x) && (decide (x < 8) && (decide (c.kd ≤ 9) && ((!(decide (c.kd = 0) || (decide (c.kd = 1) || decide (c.kd = 2))) || decide (0 ≤ c.lba) && decide (c.lba < (n : Int))) && (!decide (c.kd = 1) || decide ((c.dn : Int) ≤ 64)))))) = valid x c n := by
  unfold valid
  have e : decide ((c.dn : Int) ≤ 64) = decide (c.dn ≤ 64) := by rw [decide_eq_decide]; omega
  rw [e]
  simp only [Bool.and_assoc, Bool.or_assoc]

theorem sp_oPermits (r : R) (x : Int) (c : Cm) : Am.Rec.call (Am.Run env) 17 [.agg r.cs, .int .i64 x, .agg c.cs] H K = K (.bool (may r x c)) H := by
  conv => lhs; unfold Cm.cs R.cs
  rw [eq17]
  simp only [R.fold, sp_Permits, joinP_eq, br_true, br_false, req_true, look_cons, look_nil, reduceIte, reduceCtorEq, T_val_v, isKT_k, isKT_agg, isKT_lp, isLK_c, locCells_c, nthV_zero, nthV_one, nthV_two, vals_tuple, aggCells_agg, isAgg_agg, getInt_int, getBool_bool, getStr_str, getPtr_ptr, slPtr_slice, slLen_slice, slCap_slice, isK_int, isK_bool, isK_str, isK_ptr, isK_slice, isTuple_tuple, List.length_cons, List.length_nil, Bool.and_true, Bool.true_and, Bool.or_false, Bool.false_or, Bool.and_self, decide_true, decide_false, Bool.not_true, Bool.not_false, beq_dec, ble_dec, Nat.reduceAdd, Nat.reduceEqDiff, Nat.reduceEqDiff]
  unfold may
  by_cases h0 : c.kd = 0
  · simp [h0]
  · by_cases h1 : c.kd = 1
    · simp [h1]
    · by_cases h2 : c.kd = 2
      · simp [h2]
      · by_cases h3 : c.kd = 3 <;> simp [h0, h1, h2, h3]

end

/-! Objects in memory: a command. -/

/-- An answer's cells. -/
def Rs.cs (s : Rs) (q : Option (Nat × Nat)) (n : Nat) : List V := c40 s.e q s.d.length n (s.r.k 0) (s.r.k 1) (s.r.k 2) (s.r.k 3) (s.r.k 4) (s.r.k 5) (s.r.k 6) (s.r.k 7) s.r.ty s.r.ho s.r.ge s.r.la

theorem Rs.fits (s : Rs) (q : Option (Nat × Nat)) (n : Nat) : Am.fits k40 (s.cs q n) = true := rfl
theorem Rs.open (s : Rs) (q : Option (Nat × Nat)) (n : Nat) : o40 (s.cs q n) = s.cs q n := rfl
theorem Rs.n0 (s : Rs) (q : Option (Nat × Nat)) (n : Nat) : Am.nthV (s.cs q n) 0 = .int .i64 s.e := rfl
theorem Rs.n1 (s : Rs) (q : Option (Nat × Nat)) (n : Nat) : Am.nthV (s.cs q n) 1 = .slice q s.d.length n := rfl

section
variable {B : Am.Heap} {L : List Ast} {H : Am.Heap} {K : V → Am.Heap → Prop} {id : Nat} {o : Ob}

theorem sp_oSettle (h : Sat B H (ObjA id o :: L)) (ho : o.ok) (k : ∀ H', Sat B H' (ObjA id (flushO o) :: L) → K (.tuple []) H') :
    Am.Rec.call (Am.Run env) 22 [.ptr (some (id, 0))] H K := by
  rw [eq22]
  simp only [Option.isNone_some, Bool.not_false, br_true]
  exact sp_flush h ho k

theorem sp_oDo (h : Sat B H (ObjA id o :: L)) (ho : o.ok) (x : Int) (c : Cm) (dat : List UInt8) (hd : c.dn = dat.length) (hr : Rds B L c.dp dat)
    (k : ∀ q n H', Sat B H' (BY q n (doO o x c dat).2.d :: ObjA id (doO o x c dat).1 :: L) → K (.agg ((doO o x c dat).2.cs q n)) H') :
    Am.Rec.call (Am.Run env) 13 [.ptr (some (id, 0)), .int .i64 x, .agg c.cs] H K := by
  obtain ⟨rs, q, cc, cid, hrs, h1⟩ := Sat.obj h
  obtain ⟨f1, f2, f3, f4, f5, f6, f7, f8, f9, f10, f11⟩ := obj_facts h1.get
  conv in c.cs => unfold Cm.cs
  rw [eq13]
  simp only [Cm.fold, Option.isNone_some, Option.isSome_some, Option.getD_some, br_false, req_true, Nat.zero_add, f1, f2, isK_slice, slLen_slice, Bool.and_self, sp_Valid, valid_eq, isK_bool, getBool_bool]
  unfold doO at k
  cases hv : valid x c o.su.length
  · rw [if_pos hv] at k
    exact k none 0 H (bytNil h)
  · simp only [Bool.not_true, br_false, f5, f6, R.fits_cs, R.open_cs, Bool.and_self, req_true, sp_oPermits, isK_bool, getBool_bool]
    rw [if_neg (by simp [hv])] at k
    have hv2 := hv
    unfold valid at hv2
    simp only [Bool.and_eq_true, Bool.or_eq_true, Bool.not_eq_true', Bool.or_eq_false_iff, decide_eq_true_eq, decide_eq_false_iff_not] at hv2
    obtain ⟨⟨⟨⟨v1, v2⟩, v3⟩, v4⟩, v5⟩ := hv2
    cases hm : may o.r x c
    · rw [if_pos hm] at k
      exact k none 0 H (bytNil h)
    · rw [if_neg (by simp [hm])] at k
      simp only [Bool.not_true, br_false]
      by_cases k0 : c.kd = 0
      · rw [if_pos k0] at k
        simp only [k0, decide_true, br_true]
        refine sp_oNow h ho c.lba (fun q5 c5 H5 h5 => ?_)
        simp only [isK_slice, req_true, slPtr_slice, slLen_slice, slCap_slice]
        exact k q5 c5 H5 h5
      · rw [if_neg k0] at k
        simp only [k0, decide_false, br_false]
        by_cases k1 : c.kd = 1
        · rw [if_pos k1] at k
          simp only [k1, decide_true, br_true]
          have hdn : c.dn ≤ 64 := by omega
          rw [hd]
          refine sp_put h ho ⟨c.lba, dat, false⟩ (by simp only []; omega) (by simp only []; omega) (by simp only []; omega) hr c.su (fun H5 h5 => ?_)
          exact k none 0 H5 (bytNil h5)
        · rw [if_neg k1] at k
          simp only [k1, decide_false, br_false]
          by_cases k2 : c.kd = 2
          · rw [if_pos k2] at k
            simp only [k2, decide_true, br_true]
            refine sp_put h ho ⟨c.lba, [], true⟩ (by simp only []; omega) (by simp only []; omega) (by simp) (Rds.nil _ _ _) c.su (fun H5 h5 => ?_)
            exact k none 0 H5 (bytNil h5)
          · rw [if_neg k2] at k
            simp only [k2, decide_false, br_false]
            by_cases k3 : c.kd = 3
            · rw [if_pos k3] at k
              simp only [k3, decide_true, br_true]
              refine sp_flush h ho (fun H5 h5 => ?_)
              exact k none 0 H5 (bytNil h5)
            · rw [if_neg k3] at k
              simp only [k3, decide_false, br_false]
              by_cases k9 : c.kd = 9
              · rw [if_pos k9] at k
                simp only [k9, decide_true, br_true]
                exact k none 0 H (bytNil h)
              · rw [if_neg k9] at k
                simp only [k9, decide_false, br_false, sp_Do, isTuple_tuple, vals_tuple, nthV_zero, nthV_one, isAgg_agg, aggCells_agg, R.fits_cs, R.open_cs, isK_int, getInt_int, Bool.or_false, Bool.and_self, req_true, f10, List.length_cons, List.length_nil, Nat.reduceAdd, beq_dec, decide_true]
                have h4 := h1.store (off := 2) (vs := (doR o.r x c).1.cs)
                have e2 : setMany (ocs q o.su.length cc cid o.r) 2 (doR o.r x c).1.cs = ocs q o.su.length cc cid (doR o.r x c).1 := rfl
                rw [e2] at h4
                exact k none 0 _ (bytNil (Sat.unobj (o := ⟨o.su, o.ps, (doR o.r x c).1⟩) h4 hrs))

end

end Go.Proofs.Ytmionmlellimoaa
