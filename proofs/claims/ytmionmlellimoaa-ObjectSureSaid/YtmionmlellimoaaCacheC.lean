/- The cache's calls: Get, Drop, All. -/
import Derived.Test.YtmionmlellimoaaCacheB
namespace Go.Proofs.Ytmionmlellimoaa
open Go.Am
set_option maxRecDepth 100000
set_option linter.unusedSimpArgs false
set_option linter.unusedVariables false
set_option linter.unusedSectionVars false

theorem map_erase {α β : Type} (f : α → β) : ∀ (l : List α) (i : Nat), (l.eraseIdx i).map f = (l.map f).eraseIdx i
  | [], _ => rfl
  | x :: l, 0 => rfl
  | x :: l, i + 1 => by
    show f x :: (l.eraseIdx i).map f = f x :: (l.map f).eraseIdx i
    rw [map_erase f l i]

/-- The place of an address. -/
theorem sort_set {ps : List Pg} (h : SortP ps) {p : Pg} (hh : hasP ps p.addr = true) (hd : p.data.length ≤ 64) : SortP (ps.set (posP ps p.addr) p) := by
  obtain ⟨g1, g2⟩ := (hasP_iff h.up).1 hh
  refine ⟨?_, ?_, ?_⟩
  · rw [List.pairwise_iff_getElem]
    intro i j hi hj hij
    rw [List.length_set] at hi hj
    have key : ∀ k (hk : k < ps.length), ((ps.set (posP ps p.addr) p)[k]'(by rw [List.length_set]; exact hk)).addr = (ps[k]).addr := by
      intro k hk
      rw [List.getElem_set]
      split
      · rename_i he; subst he; exact g2.symm
      · rfl
    rw [key i hi, key j hj]
    exact (List.pairwise_iff_getElem.1 h.up) i j hi hj hij
  · intro x hx
    rcases List.mem_or_eq_of_mem_set hx with hx | rfl
    · exact h.lo x hx
    · have := h.lo _ (List.getElem_mem g1)
      rw [g2] at this
      exact this
  · intro x hx
    rcases List.mem_or_eq_of_mem_set hx with hx | rfl
    · exact h.dl x hx
    · exact hd

theorem sort_ins {ps : List Pg} (h : SortP ps) {p : Pg} (hh : hasP ps p.addr = false) (hr : 0 ≤ p.addr ∧ p.addr ≤ 65535) (hd : p.data.length ≤ 64) : SortP (ps.take (posP ps p.addr) ++ p :: ps.drop (posP ps p.addr)) := by
  have hmem : ∀ x, x ∈ ps.take (posP ps p.addr) ++ p :: ps.drop (posP ps p.addr) → x ∈ ps ∨ x = p := by
    intro x hx
    rcases List.mem_append.1 hx with hx | hx
    · exact .inl (List.mem_of_mem_take hx)
    · rcases List.mem_cons.1 hx with rfl | hx
      · exact .inr rfl
      · exact .inl (List.mem_of_mem_drop hx)
  refine ⟨?_, ?_, ?_⟩
  · have h1 : (ps.take (posP ps p.addr) ++ ps.drop (posP ps p.addr)).Pairwise fun x y => x.addr < y.addr := by rw [List.take_append_drop]; exact h.up
    rw [List.pairwise_append] at h1
    rw [List.pairwise_append, List.pairwise_cons]
    have lo : ∀ x ∈ ps.take (posP ps p.addr), x.addr < p.addr := by
      intro x hx
      obtain ⟨i, hi, rfl⟩ := List.getElem_of_mem hx
      rw [List.length_take] at hi
      rw [List.getElem_take]
      exact posP_lt (by omega) (by omega)
    have hi : ∀ x ∈ ps.drop (posP ps p.addr), p.addr < x.addr := by
      intro x hx
      obtain ⟨i, hi, rfl⟩ := List.getElem_of_mem hx
      rw [List.length_drop] at hi
      rw [List.getElem_drop]
      have h2 := posP_ge (a := p.addr) h.up (i := posP ps p.addr + i) (by omega) (by omega)
      have h3 : (ps[posP ps p.addr + i]).addr ≠ p.addr := by
        intro he
        have : hasP ps p.addr = true := by
          unfold hasP
          rw [List.any_eq_true]
          exact ⟨_, List.getElem_mem _, by simpa using he⟩
        rw [hh] at this; cases this
      omega
    refine ⟨h1.1, ⟨hi, h1.2.1⟩, ?_⟩
    intro x hx y hy
    rcases List.mem_cons.1 hy with rfl | hy
    · exact lo x hx
    · exact h1.2.2 x hx y hy
  · intro x hx
    rcases hmem x hx with hx | rfl
    · exact h.lo x hx
    · exact hr
  · intro x hx
    rcases hmem x hx with hx | rfl
    · exact h.dl x hx
    · exact hd

theorem sort_put {ps : List Pg} (h : SortP ps) (p : Pg) : SortP (putP ps p).1 := by
  unfold putP
  split
  · exact h
  · split
    · exact h
    · have hd : p.put.data.length ≤ 64 := by
        unfold Pg.put
        simp only []
        split
        · simp
        · omega
      have ha : p.put.addr = p.addr := rfl
      split
      · rename_i hh
        exact sort_set (p := p.put) h hh hd
      · split
        · exact h
        · rename_i hh _
          exact sort_ins (p := p.put) h (by rw [ha]; simpa using hh) (by rw [ha]; omega) hd

theorem len_put {ps : List Pg} (hl : ps.length ≤ 8) (p : Pg) : (putP ps p).1.length ≤ 8 := by
  unfold putP
  split
  · exact hl
  · split
    · exact hl
    · split
      · simpa using hl
      · split
        · exact hl
        · have := posP_le ps p.addr
          simp
          omega

theorem sort_drop {ps : List Pg} (h : SortP ps) (a : Int) : SortP (dropP ps a) := by
  unfold dropP
  split
  · refine ⟨h.up.sublist (List.eraseIdx_sublist _ _), fun x hx => h.lo x (List.mem_of_mem_eraseIdx hx), fun x hx => h.dl x (List.mem_of_mem_eraseIdx hx)⟩
  · exact h

theorem len_drop {ps : List Pg} (hl : ps.length ≤ 8) (a : Int) : (dropP ps a).length ≤ 8 := by
  unfold dropP
  split
  · rw [List.length_eraseIdx]; split <;> omega
  · exact hl

section
variable {B : Am.Heap} {L : List Ast} {H : Am.Heap} {K : V → Am.Heap → Prop} {cap : Nat} {q : Option (Nat × Nat)} {id : Nat} {ps : List Pg} {a : Int}

/-- A page's data are read. -/
theorem raw_data {rs : List Rp} (h : Sat B H (bigA (rs.map Rp.dat) :: L)) {i : Nat} (hi : i < rs.length) : RdB H rs[i].q rs[i].p.data := by
  have h1 := h.bigOut (i := i) (by simpa using hi)
  rw [List.getElem_map] at h1
  exact h1.bytRd

theorem sp_Get (h : Sat B H (CacheA id ps :: L)) (hs : SortP ps) (hl : ps.length ≤ 8) (ha : -9223372036854775808 ≤ a ∧ a ≤ 9223372036854775807)
    (kn : hasP ps a = false → ∀ H', Sat B H' (CacheA id ps :: L) → K (.tuple [.agg (c72 0 none 0 0 false), .bool false]) H')
    (ky : ∀ (hp : posP ps a < ps.length) q' c' H', hasP ps a = true → (ps[posP ps a]).addr = a → Sat B H' (BY q' c' (ps[posP ps a]).data :: CacheA id ps :: L) →
      K (.tuple [.agg (c72 a q' (ps[posP ps a]).data.length c' (ps[posP ps a]).hole), .bool true]) H') :
    Am.Rec.call (Am.Run env) 31 [.ptr (some (id, 0)), .int .i64 a] H K := by
  rw [eq31, Option.isNone_some, br_false]
  obtain ⟨rs, qc, cc, rfl, hcs⟩ := Sat.cache h
  rw [List.length_map] at hl
  have hg := hcs.get
  have hrd := (hcs.up 1).rwRd
  refine sp_at hg hrd (by omega) (fun i hi => ?_)
  obtain ⟨f1, f2, f3⟩ := search_res rfl hs ha hi
  rw [f1]
  cases hf : hasP (rs.map Rp.p) a
  · simp only [joinP_eq, br_true, br_false, req_true, look_cons, look_nil, reduceIte, reduceCtorEq, T_val_v, isKT_k, isKT_agg, isKT_lp, isLK_c, locCells_c, nthV_zero, nthV_one, nthV_two, vals_tuple, aggCells_agg, isAgg_agg, getInt_int, getBool_bool, getStr_str, getPtr_ptr, slPtr_slice, slLen_slice, slCap_slice, isK_int, isK_bool, isK_str, isK_ptr, isK_slice, isTuple_tuple, List.length_cons, List.length_nil, Bool.and_true, Bool.true_and, Bool.or_false, Bool.false_or, Bool.and_self, decide_true, decide_false, Bool.not_true, Bool.not_false, beq_dec, ble_dec, Nat.reduceAdd, Nat.reduceEqDiff, Nat.reduceEqDiff, Option.isSome_some]
    exact kn hf H h
  · have f3 := f3 hf
    subst f3
    obtain ⟨g1, g2⟩ := (hasP_iff hs.up).1 hf
    have g3 := g1
    rw [List.length_map] at g3
    have e4 : Nat.ble (0 + 1) [V.slice qc rs.length cc].length = true := rfl
    have e5 : 0 ≤ ((posP (rs.map Rp.p) a : Nat) : Int) := by omega
    have e6 : ((posP (rs.map Rp.p) a : Nat) : Int) < (rs.length : Int) := by omega
    obtain ⟨s1, s2, s3⟩ := read_page hrd g3
    have n0 : Am.nthV (rs[posP (rs.map Rp.p) a]).cs 0 = .int .i64 (rs[posP (rs.map Rp.p) a]).p.addr := rfl
    have n1 : Am.nthV (rs[posP (rs.map Rp.p) a]).cs 1 = .slice (rs[posP (rs.map Rp.p) a]).q (rs[posP (rs.map Rp.p) a]).p.data.length (rs[posP (rs.map Rp.p) a]).c := rfl
    have n2 : Am.nthV (rs[posP (rs.map Rp.p) a]).cs 2 = .bool (rs[posP (rs.map Rp.p) a]).p.hole := rfl
    simp only [joinP_eq, br_true, br_false, req_true, look_cons, look_nil, reduceIte, reduceCtorEq, T_val_v, isKT_k, isKT_agg, isKT_lp, isLK_c, locCells_c, nthV_zero, nthV_one, nthV_two, vals_tuple, aggCells_agg, isAgg_agg, getInt_int, getBool_bool, getStr_str, getPtr_ptr, slPtr_slice, slLen_slice, slCap_slice, isK_int, isK_bool, isK_str, isK_ptr, isK_slice, isTuple_tuple, List.length_cons, List.length_nil, Bool.and_true, Bool.true_and, Bool.or_false, Bool.false_or, Bool.and_self, decide_true, decide_false, Bool.not_true, Bool.not_false, beq_dec, ble_dec, Nat.reduceAdd, Nat.reduceEqDiff, Nat.reduceEqDiff, Option.isSome_some, Option.getD_some, inb_get hg, cell_get hg, e4, e5, e6, Int.toNat_natCast, s1, s2, s3, Rp.fits, n0, n1, n2]
    have hdat := raw_data (hcs.up 2) g3
    have hdl := hs.dl _ (List.getElem_mem g1)
    simp only [List.getElem_map] at g2 hdl ky
    refine sp_Clone h hdat (by omega) (fun q' c' H' h' => ?_)
    simp only [isK_slice, req_true, slPtr_slice, slLen_slice, slCap_slice, g2]
    exact ky g1 q' c' H' hf g2 h'

theorem sp_Drop (h : Sat B H (CacheA id ps :: L)) (hs : SortP ps) (hl : ps.length ≤ 8) (ha : -9223372036854775808 ≤ a ∧ a ≤ 9223372036854775807)
    (k : ∀ H', Sat B H' (CacheA id (dropP ps a) :: L) → K (.tuple []) H') :
    Am.Rec.call (Am.Run env) 42 [.ptr (some (id, 0)), .int .i64 a] H K := by
  rw [eq42, Option.isNone_some, br_false]
  obtain ⟨rs, qc, cc, rfl, hcs⟩ := Sat.cache h
  rw [List.length_map] at hl
  have hg := hcs.get
  have hrd := (hcs.up 1).rwRd
  unfold dropP at k
  refine sp_at hg hrd (by omega) (fun i hi => ?_)
  obtain ⟨f1, f2, f3⟩ := search_res rfl hs ha hi
  rw [f1]
  cases hf : hasP (rs.map Rp.p) a
  · rw [hf, if_neg (by simp)] at k
    simp only [joinP_eq, br_true, br_false, req_true, look_cons, look_nil, reduceIte, reduceCtorEq, T_val_v, isKT_k, isKT_agg, isKT_lp, isLK_c, locCells_c, nthV_zero, nthV_one, nthV_two, vals_tuple, aggCells_agg, isAgg_agg, getInt_int, getBool_bool, getStr_str, getPtr_ptr, slPtr_slice, slLen_slice, slCap_slice, isK_int, isK_bool, isK_str, isK_ptr, isK_slice, isTuple_tuple, List.length_cons, List.length_nil, Bool.and_true, Bool.true_and, Bool.or_false, Bool.false_or, Bool.and_self, decide_true, decide_false, Bool.not_true, Bool.not_false, beq_dec, ble_dec, Nat.reduceAdd, Nat.reduceEqDiff, Nat.reduceEqDiff, Option.isSome_some]
    exact k H h
  · rw [hf, if_pos rfl] at k
    have f3 := f3 hf
    subst f3
    obtain ⟨g1, g2⟩ := (hasP_iff hs.up).1 hf
    have g3 := g1
    rw [List.length_map] at g3
    have e4 : Nat.ble (0 + 1) [V.slice qc rs.length cc].length = true := rfl
    simp only [joinP_eq, br_true, br_false, req_true, look_cons, look_nil, reduceIte, reduceCtorEq, T_val_v, isKT_k, isKT_agg, isKT_lp, isLK_c, locCells_c, nthV_zero, nthV_one, nthV_two, vals_tuple, aggCells_agg, isAgg_agg, getInt_int, getBool_bool, getStr_str, getPtr_ptr, slPtr_slice, slLen_slice, slCap_slice, isK_int, isK_bool, isK_str, isK_ptr, isK_slice, isTuple_tuple, List.length_cons, List.length_nil, Bool.and_true, Bool.true_and, Bool.or_false, Bool.false_or, Bool.and_self, decide_true, decide_false, Bool.not_true, Bool.not_false, beq_dec, ble_dec, Nat.reduceAdd, Nat.reduceEqDiff, Nat.reduceEqDiff, Option.isSome_some, Option.getD_some, inb_get hg, cell_get hg, e4]
    rw [wrap_in (by omega) (by omega)]
    have hrw := hcs.up 1
    simp only [nthA, outA] at hrw
    have hdel := sp_Delete (i := posP (rs.map Rp.p) a) (K := fun v H' => req (V.isK Kind.slice v) (req (Am.Heap.wr H' id 0 1) (K (.tuple []) (Am.Heap.store H' id 0 [V.slice (V.slPtr v) (V.slLen v) (V.slCap v)])))) hrw (raw_fit rs) (by simp; omega) (by simpa using g3) (fun H' h' => ?_)
    · have e9 : (((posP (rs.map Rp.p) a : Nat) : Int) + 1) = ((posP (rs.map Rp.p) a + 1 : Nat) : Int) := by omega
      rw [e9]
      simpa using hdel
    · rw [List.length_map]
      simp only [isK_slice, req_true, slPtr_slice, slLen_slice, slCap_slice]
      have h5 := h'.up 1
      simp only [nthA, outA] at h5
      have hw : Am.Heap.wr H' id 0 1 = true := by rw [wr_get h5.get]; rfl
      rw [hw, req_true]
      have h6 := h5.store (off := 0) (vs := [V.slice qc (rs.length - 1) cc])
      have e6 : setMany [V.slice qc rs.length cc] 0 [V.slice qc (rs.length - 1) cc] = [V.slice qc (rs.length - 1) cc] := rfl
      rw [e6] at h6
      generalize Am.Heap.store H' _ _ _ = H3 at h6 ⊢
      have h7 := h6.up 2
      simp only [nthA, outA] at h7
      have h8 := (h7.bigOut (i := posP (rs.map Rp.p) a) (by simpa using g3)).drop
      have h9 : Sat B H3 (blk id 67 [V.slice qc (rs.eraseIdx (posP (rs.map Rp.p) a)).length cc] :: Rw 73 3 qc cc ((rs.eraseIdx (posP (rs.map Rp.p) a)).map Rp.cs) :: bigA ((rs.eraseIdx (posP (rs.map Rp.p) a)).map Rp.dat) :: L) := by
        rw [List.length_eraseIdx, if_pos g3, map_erase, map_erase]
        exact (h8.up 1).perm ((List.Perm.swap ..).cons _)
      have h10 := Sat.uncache h9
      rw [map_erase] at h10
      exact k _ h10

/-- What is told of all pages: a row of their like. -/
theorem lp_All {rs : List Rp} (hb : rs.length ≤ 8) (hdl : ∀ r ∈ rs, r.p.data.length ≤ 64) {qc : Option (Nat × Nat)} {cc : Nat} {Kr : Am.St → Prop} {Ke : Nat → Am.St → Prop} : ∀ (n i : Nat) (os : List Rp) {q : Option (Nat × Nat)} {cap : Nat} {H : Am.Heap}, i + n = rs.length → os.map Rp.p = (rs.map Rp.p).take i →
    Sat B H (Rw 73 3 q cap (os.map Rp.cs) :: bigA (os.map Rp.dat) :: Rw 73 3 qc cc (rs.map Rp.cs) :: bigA (rs.map Rp.dat) :: L) →
    (∀ (os' : List Rp) q' c' H', os'.map Rp.p = rs.map Rp.p → Sat B H' (Rw 73 3 q' c' (os'.map Rp.cs) :: bigA (os'.map Rp.dat) :: Rw 73 3 qc cc (rs.map Rp.cs) :: bigA (rs.map Rp.dat) :: L) → Ke 0 (St.mk (Am.look [(3, T.v (V.slice q' rs.length c'))]) (Am.look []) H')) →
    Am.Rec.loop (Am.Run env) (Am.loopAt env 44 5) 44 5
      (St.mk (Am.look [(3, T.v (V.slice q os.length cap)), (11, T.v (V.slice qc rs.length cc)), (12, T.v (V.int .i64 (rs.length : Int))), (13, T.v (V.int .i64 (i : Int)))]) (Am.look []) H) Kr Ke
  | 0, i, os, q, cap, H, hi, ho, h, k => by
    obtain rfl : i = rs.length := by omega
    have hol : os.length = rs.length := by have := congrArg List.length ho; simpa using this
    rw [lp44_5]
    have e1 : ¬ (rs.length : Int) < (rs.length : Int) := by omega
    rw [decide_eq_false e1, br_false, hol]
    exact k os _ _ _ (by rw [ho, List.take_of_length_le (by simp)]) h
  | n + 1, i, os, q, cap, H, hi, ho, h, k => by
    have hlt : i < rs.length := by omega
    have hol : os.length = i := by have := congrArg List.length ho; simp at this; omega
    have hrd := (h.up 2).rwRd
    obtain ⟨s1, s2, s3⟩ := read_page hrd hlt
    have e5 : 0 ≤ (i : Int) := by omega
    have e6 : (i : Int) < (rs.length : Int) := by omega
    have n0 : Am.nthV (rs[i]).cs 0 = .int .i64 (rs[i]).p.addr := rfl
    have n1 : Am.nthV (rs[i]).cs 1 = .slice (rs[i]).q (rs[i]).p.data.length (rs[i]).c := rfl
    have n2 : Am.nthV (rs[i]).cs 2 = .bool (rs[i]).p.hole := rfl
    rw [lp44_5]
    simp only [e5, e6, decide_true, br_true, Int.toNat_natCast, s1, s2, s3, Rp.fits, n0, n1, n2, getInt_int, getBool_bool, slPtr_slice, slLen_slice, slCap_slice, Bool.and_self, req_true]
    refine sp_Clone h (raw_data (h.up 3) hlt) (by have := hdl _ (List.getElem_mem hlt); omega) (fun q' c' H' h' => ?_)
    simp only [isK_slice, req_true, slPtr_slice, slLen_slice, slCap_slice]
    have h1 := h'.up 1
    simp only [nthA, outA] at h1
    have hpush := h1.rwPush (t := 65) (u := 65) el_page sl_page page_z rfl (by omega) (raw_fit os).uni (e2 := 73) (c := c72 (rs[i]).p.addr q' (rs[i]).p.data.length c' (rs[i]).p.hole) rfl
      (fits_one (f72 _ _ _ _ _)) (by simp; omega) (K := fun q n c H' =>
      Am.Rec.loop (Am.Run env) (Am.loopAt env 44 5) 44 5
      (St.mk (Am.look [(3, T.v (V.slice q n c)), (11, T.v (V.slice qc rs.length cc)), (12, T.v (V.int .i64 (rs.length : Int))), (13, T.v (V.int .i64 (IntKind.i64.wrap ((i : Int) + 1))))]) (Am.look []) H') Kr Ke) (fun q2 c2 H2 h2 => ?_)
    · simpa using hpush
    · rw [wrap_succ (by omega), List.length_map]
      have h3 := h2.up 1
      simp only [nthA, outA] at h3
      have h4 := h3.up 2
      simp only [nthA, outA] at h4
      have h5 : Sat B H2 (Rw 73 3 q2 c2 ((os ++ [(⟨(rs[i]).p, q', c'⟩ : Rp)]).map Rp.cs) :: bigA ((os ++ [(⟨(rs[i]).p, q', c'⟩ : Rp)]).map Rp.dat) :: Rw 73 3 qc cc (rs.map Rp.cs) :: bigA (rs.map Rp.dat) :: L) := by
        have h6 : Sat B H2 (bigA ((⟨(rs[i]).p, q', c'⟩ : Rp).dat :: os.map Rp.dat) :: Rw 73 3 q2 c2 (os.map Rp.cs ++ [(⟨(rs[i]).p, q', c'⟩ : Rp).cs]) :: Rw 73 3 qc cc (rs.map Rp.cs) :: bigA (rs.map Rp.dat) :: L) := h4.swap.bigCons
        have h7 := h6.bigPerm (l' := (os ++ [(⟨(rs[i]).p, q', c'⟩ : Rp)]).map Rp.dat) (by
          rw [List.map_append]
          exact (List.perm_append_comm (l₁ := [_])))
        rw [List.map_append (f := Rp.cs)]
        exact h7.swap
      have h8 := lp_All (Kr := Kr) hb hdl n (i + 1) (os ++ [(⟨(rs[i]).p, q', c'⟩ : Rp)]) (by omega) (by
        rw [List.map_append, ho, List.take_succ_eq_append_getElem (by simpa using hlt)]
        simp) h5 k
      simpa using h8

theorem sp_All (h : Sat B H (CacheA id ps :: L)) (hs : SortP ps) (hl : ps.length ≤ 8) (k : ∀ q' c' H', Sat B H' (PagesA q' c' ps :: CacheA id ps :: L) → K (.slice q' ps.length c') H') :
    Am.Rec.call (Am.Run env) 44 [.ptr (some (id, 0))] H K := by
  rw [eq44, Option.isNone_some]
  obtain ⟨rs, qc, cc, rfl, hcs⟩ := Sat.cache h
  rw [List.length_map] at hl
  have hg := hcs.get
  have e4 : Nat.ble (0 + 1) [V.slice qc rs.length cc].length = true := rfl
  simp only [Bool.not_false, br_true, Option.isSome_some, Option.getD_some, inb_get hg, cell_get hg, e4, nthV_zero, isK_slice, slPtr_slice, slLen_slice, slCap_slice, Bool.and_self, req_true]
  have h1 := hcs.up 2
  simp only [nthA, outA] at h1
  have h2 := h1.up 2
  simp only [nthA, outA] at h2
  have h3 : Sat B H (Rw 73 3 none 0 (([] : List Rp).map Rp.cs) :: bigA (([] : List Rp).map Rp.dat) :: Rw 73 3 qc cc (rs.map Rp.cs) :: bigA (rs.map Rp.dat) :: blk id 67 [V.slice qc rs.length cc] :: L) := h2.bigNil.rwNil _ _
  refine lp_All (Kr := fun _ => False) (by omega) (fun r hr => hs.dl _ (List.mem_map.2 ⟨r, hr, rfl⟩)) rs.length 0 [] (by omega) rfl h3 (fun os q' c' H' ho h' => ?_)
  have h4 := Sat.unpages h'
  rw [ho] at h4
  have h5 := h4.up 3
  simp only [nthA, outA] at h5
  have h6 : Sat B H' (blk id 67 [V.slice qc rs.length cc] :: Rw 73 3 qc cc (rs.map Rp.cs) :: bigA (rs.map Rp.dat) :: PagesA q' c' (rs.map Rp.p) :: L) := h5.perm (((List.Perm.swap ..).trans ((List.Perm.swap ..).cons _)).cons _)
  have h7 := (Sat.uncache h6).swap
  have := k q' c' H' h7
  simpa [joinP_eq, br_true, br_false, req_true, look_cons, look_nil, reduceIte, reduceCtorEq, T_val_v, isKT_k, isKT_agg, isKT_lp, isLK_c, locCells_c, nthV_zero, nthV_one, nthV_two, vals_tuple, aggCells_agg, isAgg_agg, getInt_int, getBool_bool, getStr_str, getPtr_ptr, slPtr_slice, slLen_slice, slCap_slice, isK_int, isK_bool, isK_str, isK_ptr, isK_slice, isTuple_tuple, List.length_cons, List.length_nil, Bool.and_true, Bool.true_and, Bool.or_false, Bool.false_or, Bool.and_self, decide_true, decide_false, Bool.not_true, Bool.not_false, beq_dec, ble_dec, Nat.reduceAdd, Nat.reduceEqDiff, Nat.reduceEqDiff] using this

end
end Go.Proofs.Ytmionmlellimoaa
