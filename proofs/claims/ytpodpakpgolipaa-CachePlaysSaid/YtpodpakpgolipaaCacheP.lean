/- The law CachePlays of layer 11. -/
import Derived.Test.YtpodpakpgolipaaCacheO
namespace Go.Proofs.Ytpodpakpgolipaa
open Go.Am
set_option maxRecDepth 100000
set_option linter.unusedSimpArgs false
set_option linter.unusedVariables false
set_option linter.unusedSectionVars false

section
variable {B : Am.Heap} {L : List Ast} {H : Am.Heap} {K : V → Am.Heap → Prop} {id : Nat}

theorem lp_find0 {q4 : Option (Nat × Nat)} {c4 : Nat} {ls : List Rp} (hb : ls.length ≤ 8) (r : Rp) {x0q : Option (Nat × Nat)} {x0n x0c : Nat} {x5 : Int} {Kr : Am.St → Prop} {Ke : Nat → Am.St → Prop}
    (hrd : Rd H q4 (ls.map Rp.cs).flatten) :
    Am.Rec.loop (Am.Run env) (Am.loopAt env 11 17) 11 17
      (St.mk (Am.look [(0, T.v (V.slice x0q x0n x0c)), (3, T.v (V.ptr (some (id, 0)))), (4, T.v (V.slice q4 ls.length c4)), (5, T.v (V.int .i64 x5)), (6, T.lp 6 0),
        (7, T.v (V.int .i64 (ls.length : Int))), (8, T.v (V.bool false)), (9, T.v (V.int .i64 0))]) (Am.look [(6, Loc.cells 42 r.cs)]) H) Kr Ke =
    Ke 2 (St.mk (Am.look [(0, T.v (V.slice x0q x0n x0c)), (3, T.v (V.ptr (some (id, 0)))), (4, T.v (V.slice q4 ls.length c4)), (5, T.v (V.int .i64 x5)), (6, T.lp 6 0),
        (7, T.v (V.int .i64 (posP (ls.map Rp.p) r.p.addr : Nat))), (8, T.v (V.bool (hasP (ls.map Rp.p) r.p.addr)))]) (Am.look [(6, Loc.cells 42 r.cs)]) H) := by
  have h := lp_find (H := H) hb r (x0q := x0q) (x0n := x0n) (x0c := x0c) (x5 := x5) (id := id) (c4 := c4) (Kr := Kr) (Ke := Ke) hrd ls.length 0 (by omega)
  have e1 : atI (ls.map Rp.p) r.p.addr 0 = ls.length := by unfold atI; rw [if_neg (by omega), List.length_map]
  have e2 : thereI (ls.map Rp.p) r.p.addr 0 = false := rfl
  rw [e1, e2] at h
  exact h

/-- Where the ways of a round meet. -/
def Met (B : Am.Heap) (L : List Ast) (id : Nat) (S : St) : Prop :=
  ∃ ps ls q c H', S = St.mk (Am.look [(4, T.v (V.slice q ps.length c))]) (Am.look []) H' ∧ LsOk B ls ps ∧ SortP ps ∧ ps.length ≤ 8 ∧ Sat B H' (CacheA id ps :: Rw 42 3 q c (ls.map Rp.cs) :: L)

theorem ls_len {ls : List Rp} {ps : List Pg} (h : LsOk B ls ps) : ls.length = ps.length := by rw [← h.eq, List.length_map]

theorem ls_set {ls : List Rp} {ps : List Pg} (h : LsOk B ls ps) {r : Rp} (hr : RdB B r.q r.p.data) (i : Nat) : LsOk B (ls.set i r) (ps.set i r.p) := by
  refine ⟨by rw [List.map_set, h.eq], fun x hx => ?_⟩
  rcases List.mem_or_eq_of_mem_set hx with hx | rfl
  · exact h.rd x hx
  · exact hr

theorem ls_ins {ls : List Rp} {ps : List Pg} (h : LsOk B ls ps) {r : Rp} (hr : RdB B r.q r.p.data) (i : Nat) : LsOk B (ls.take i ++ r :: ls.drop i) (ps.take i ++ r.p :: ps.drop i) := by
  refine ⟨by rw [List.map_append, List.map_cons, List.map_take, List.map_drop, h.eq], fun x hx => ?_⟩
  rcases List.mem_append.1 hx with hx | hx
  · exact h.rd x (List.mem_of_mem_take hx)
  · rcases List.mem_cons.1 hx with rfl | hx
    · exact hr
    · exact h.rd x (List.mem_of_mem_drop hx)

theorem ls_era {ls : List Rp} {ps : List Pg} (h : LsOk B ls ps) (i : Nat) : LsOk B (ls.eraseIdx i) (ps.eraseIdx i) :=
  ⟨by rw [map_erase, h.eq], fun x hx => h.rd x (List.mem_of_mem_eraseIdx hx)⟩

theorem lp_plays {x0q : Option (Nat × Nat)} {x0c : Nat} {sc : List Stp} (hsc : Rd B x0q (sc.map Stp.cs).flatten) (hok : ∀ a ∈ sc, a.ok B) {Kr : Am.St → Prop} {Ke : Nat → Am.St → Prop} :
    ∀ (n i : Nat) {ps : List Pg} {ls : List Rp} {q4 : Option (Nat × Nat)} {c4 : Nat} {H : Am.Heap}, i + n = min sc.length 60 → LsOk B ls ps → SortP ps → ps.length ≤ 8 → Sat B H (CacheA id ps :: Rw 42 3 q4 c4 (ls.map Rp.cs) :: L) →
    (∀ ps' H', SortP ps' → ps'.length ≤ 8 → Sat B H' (CacheA id ps' :: L) → Ke 0 (St.mk (Am.look [(3, T.v (V.ptr (some (id, 0))))]) (Am.look []) H')) →
    Am.Rec.loop (Am.Run env) (Am.loopAt env 11 7) 11 7
      (St.mk (Am.look [(0, T.v (V.slice x0q sc.length x0c)), (3, T.v (V.ptr (some (id, 0)))), (4, T.v (V.slice q4 ps.length c4)), (5, T.v (V.int .i64 (i : Int)))]) (Am.look []) H) Kr Ke
  | 0, i, ps, ls, q4, c4, H, hi, hls, hs, hb, h, k => by
    rw [lp11_7]
    have e : (decide ((i : Int) < (sc.length : Int)) && decide ((i : Int) < 60)) = false := by
      by_cases h1 : (i : Int) < (sc.length : Int)
      · have : ¬ (i : Int) < 60 := by omega
        simp [this]
      · simp [h1]
    rw [e, br_false]
    exact k ps H hs hb h.swap.drop
  | n + 1, i, ps, ls, q4, c4, H, hi, hls, hs, hb, h, k => by
    have hlt : i < sc.length := by omega
    have h60 : i < 60 := by omega
    have hll := ls_len hls
    obtain ⟨s1, s2, s3, s4, s5, s6, s7⟩ := read_stp (h.rd hsc) hlt
    have ho := hok _ (List.getElem_mem hlt)
    rw [lp11_7]
    generalize sc[i] = st at s3 s5 s7 ho
    have e1 : (i : Int) < (sc.length : Int) := by omega
    have e2 : (i : Int) < 60 := by omega
    have e3 : 0 ≤ (i : Int) := by omega
    have n0 : Am.nthV st.r.cs 0 = .int .i64 st.r.p.addr := rfl
    have n1 : Am.nthV st.r.cs 1 = .slice st.r.q st.r.p.data.length st.r.c := rfl
    have n2 : Am.nthV st.r.cs 2 = .bool st.r.p.hole := rfl
    have eo : ∀ r : Rp, o41 r.cs = r.cs := fun r => rfl
    simp only [e1, e2, e3, s1, s4, s5, s6, s7, n0, n1, n2, eo, Int.toNat_natCast, decide_true, br_true, Bool.and_self, req_true, Rp.fits, isK_bool, getBool_bool, getInt_int, slPtr_slice, slLen_slice, slCap_slice]
    refine joinP_br (fun S' hS => ?_)
    obtain ⟨r, hr0, hrd, hra⟩ : ∃ r : Rp, S' = St.mk (Am.look []) (Am.look [(6, Loc.cells 42 r.cs)]) H ∧ RdB B r.q r.p.data ∧ (-9223372036854775808 ≤ r.p.addr ∧ r.p.addr ≤ 9223372036854775807) := by
      rcases hS with ⟨_, rfl⟩ | ⟨_, rfl⟩
      · refine ⟨⟨⟨IntKind.i64.wrap (Int.tmod (IntKind.u64.wrap st.r.p.addr) 12), st.r.p.data, st.r.p.hole⟩, st.r.q, st.r.c⟩, rfl, ho.rd, ?_⟩
        have h0 : 0 ≤ IntKind.u64.wrap st.r.p.addr := by simp only [IntKind.wrap, IntKind.bits, IntKind.signed]; simp; omega
        have hm : Int.tmod (IntKind.u64.wrap st.r.p.addr) 12 = IntKind.u64.wrap st.r.p.addr % 12 := Int.tmod_eq_emod_of_nonneg h0
        show -9223372036854775808 ≤ IntKind.i64.wrap (Int.tmod (IntKind.u64.wrap st.r.p.addr) 12) ∧ IntKind.i64.wrap (Int.tmod (IntKind.u64.wrap st.r.p.addr) 12) ≤ 9223372036854775807
        rw [hm, wrap_in (by omega) (by omega)]
        omega
      · exact ⟨st.r, rfl, ho.rd, ho.ad⟩
    subst hr0
    have hlk : isLK 42 k41 (some (Loc.cells 42 r.cs)) = true := rfl
    simp only [look_cons, look_nil, reduceIte, hlk, locCells_c, eo, Bool.or_false, req_true]
    rw [← hll, lp_find0 (by omega) r ((h.up 1).rwRd)]
    rw [hls.eq, hll]
    have hd0 : Am.nthV r.cs 0 = .int .i64 r.p.addr := rfl
    have hd1 : Am.nthV r.cs 1 = .slice r.q r.p.data.length r.c := rfl
    have hd2 : Am.nthV r.cs 2 = .bool r.p.hole := rfl
    have hkt : isKT (KT.lp 6) (some (T.lp 6 0)) = true := rfl
    have hposl := posP_le ps r.p.addr
    have hlp : Nat.beq 2 2 = true := rfl
    simp only [hlp, br_true, look_cons, look_nil, reduceIte, isKT_k, hkt, isK_slice, isK_ptr, isK_int, isK_bool, hlk, Bool.and_self, Bool.or_false, req_true, T_val_v, getInt_int, getBool_bool, getPtr_ptr, slPtr_slice, slLen_slice, slCap_slice,
      locCells_c, hd0, hd1, hd2, eo, e1, e3, s1, s2, s3, decide_true, Int.toNat_natCast, Nat.reduceEqDiff]
    have hkd : Int.tmod st.kd 7 = st.kd % 7 := Int.tmod_eq_emod_of_nonneg ho.kd.1
    refine joinP_gen (Met B L id) ?_ ?_
    · -- behind the call: all that waits, one by one
      rintro S ⟨ps', ls', q', c', H', rfl, hls', hs', hb', h'⟩
      have hll' := ls_len hls'
      simp only [look_cons, look_nil, reduceIte, isKT_k, isK_slice, Bool.or_false, req_true, T_val_v, slPtr_slice, slLen_slice, slCap_slice]
      refine sp_All h' hs' hb' (fun q2 c2 H2 h2 => ?_)
      obtain ⟨al, hal, h3⟩ := Sat.pages h2
      have h4 := h3.up 2
      simp only [nthA, outA] at h4
      simp only [isK_slice, slLen_slice, slPtr_slice, slCap_slice, req_true, decide_true, Bool.not_true, Bool.not_false, br_true, joinP_eq]
      rw [sp_Len h4]
      simp only [isK_int, getInt_int, req_true, decide_true, Bool.not_true, look_cons, look_nil, reduceIte, isKT_k, isK_bool, Bool.or_false, T_val_v, getBool_bool, br_false]
      rw [← hll']
      refine lp_cmp hal hls' hs' hb' ls'.length 0 (by omega) h3 (fun H5 h5 => ?_)
      have hlp5 : Nat.beq 5 5 = true := rfl
      simp only [hlp5, br_true, look_cons, look_nil, reduceIte, isKT_k, isK_slice, isK_ptr, isK_int, Bool.and_self, Bool.or_false, req_true, T_val_v, getInt_int, getPtr_ptr, slPtr_slice, slLen_slice, slCap_slice, Nat.reduceEqDiff]
      rw [wrap_succ (by omega), hll']
      exact lp_plays hsc hok n (i + 1) (by omega) hls' hs' hb' h5 k
    · intro Q hQ
      have met : ∀ {ps' : List Pg} {ls' : List Rp} {q' c' H'}, LsOk B ls' ps' → SortP ps' → ps'.length ≤ 8 → Sat B H' (CacheA id ps' :: Rw 42 3 q' c' (ls'.map Rp.cs) :: L) →
          Q (St.mk (Am.look [(4, T.v (V.slice q' ps'.length c'))]) (Am.look []) H') := fun a b c d => hQ _ ⟨_, _, _, _, _, rfl, a, b, c, d⟩
      rw [hkd]
      by_cases h6 : st.kd % 7 = 6
      · rw [decide_eq_true h6, br_true]
        refine sp_Drop h hs hb hra (fun H2 h2 => ?_)
        have hs2 := sort_drop hs r.p.addr
        have hb2 := len_drop hb r.p.addr
        unfold dropP at h2 hs2 hb2
        cases hh : hasP ps r.p.addr
        · rw [hh, if_neg (by simp)] at h2
          rw [br_false]
          exact met hls hs hb h2
        · rw [hh, if_pos rfl] at h2 hs2 hb2
          obtain ⟨g1, g2⟩ := (hasP_iff hs.up).1 hh
          rw [br_true]
          generalize hat : posP ps r.p.addr = at' at *
          have h3 := h2.swap
          have hle4 := h3.rwLe
          rw [List.length_map] at hle4
          have f1 : 0 ≤ (at' : Int) := by omega
          have f2 : (at' : Int) ≤ (c4 : Int) := by omega
          have f3 : at' ≤ c4 := by omega
          have f4 : 0 ≤ ((at' + 1 : Nat) : Int) := by omega
          have f5 : ((at' + 1 : Nat) : Int) ≤ (ps.length : Int) := by omega
          have f6 : ps.length ≤ c4 := by omega
          rw [wrap_succ (by omega)]
          simp only [f1, f2, f3, f4, f5, f6, decide_true, Bool.and_self, Bool.or_false, Bool.true_and, ble_dec, req_true, Int.toNat_natCast, ptrAdd_zero, Nat.sub_zero]
          have hr1 := rd_part (i := 0) (k := at') h3.rwRd (raw_fit ls).uni (by rw [List.length_map]; omega)
          rw [Nat.zero_mul, ptrAdd_zero, List.drop_zero] at hr1
          have l1 : ((ls.map Rp.cs).take at').length = at' := by simp; omega
          have ha1 := fun K => (h2.rwNil 42 3).rwApp (t := 36) (u := 36) (c2 := c4) (K := K) el_page sl_page page_z rfl (by omega) hr1 ((raw_fit ls).uni.take _) (by rw [l1]; simp; omega)
          rw [l1] at ha1
          refine ha1 _ (fun q5 c5 H5 h5 => ?_)
          rw [List.nil_append] at h5
          have hr2 := rd_part (i := at' + 1) (k := ls.length - (at' + 1)) (h5.up 2).rwRd (raw_fit ls).uni (by rw [List.length_map]; omega)
          have l2 : (((ls.map Rp.cs).drop (at' + 1)).take (ls.length - (at' + 1))).length = ps.length - (at' + 1) := by simp; omega
          have l3 : ((ls.map Rp.cs).drop (at' + 1)).take (ls.length - (at' + 1)) = (ls.map Rp.cs).drop (at' + 1) := List.take_of_length_le (by simp)
          have ha2 := fun K => h5.rwApp (t := 36) (u := 36) (c2 := c4 - (at' + 1)) (K := K) el_page sl_page page_z rfl (by omega) hr2 (((raw_fit ls).uni.drop _).take _) (by rw [l1, l2]; omega)
          rw [l1, l2] at ha2
          simp only [List.length_nil, Nat.zero_add] at ha2 ⊢
          refine ha2 _ (fun q6 c6 H6 h6 => ?_)
          rw [l3] at h6
          have hlen : at' + (ps.length - (at' + 1)) = (ps.eraseIdx at').length := by rw [List.length_eraseIdx, if_pos g1]; omega
          rw [hlen]
          refine met (ls' := ls.eraseIdx at') (ls_era hls at') hs2 hb2 ?_
          rw [map_erase, List.eraseIdx_eq_take_drop_succ (l := ls.map Rp.cs)]
          exact ((h6.up 2).drop).swap
      · rw [decide_eq_false h6, br_false]
        refine sp_Put (p := r.p) h hs hb hra (fun _ => h.rdB hrd) (fun H2 h2 => ?_)
        have hs2 := sort_put hs r.p
        have hb2 := len_put hb r.p
        simp only [isK_int, req_true, getInt_int]
        refine joinP_br (fun S' hS => ?_)
        obtain ⟨w, hw0, hwp, hwr⟩ : ∃ w : Rp, S' = St.mk (Am.look []) (Am.look [(12, Loc.cells 42 w.cs)]) H2 ∧ w.p = r.p.put ∧ RdB B w.q w.p.data := by
          rcases hS with ⟨hh, rfl⟩ | ⟨hh, rfl⟩
          · refine ⟨⟨r.p.put, none, 0⟩, ?_, rfl, ?_⟩
            · unfold Rp.cs Pg.put; simp [hh]
            · have : r.p.put.data = [] := by unfold Pg.put; simp [hh]
              simp only [this]
              exact RdB.nil _ _
          · refine ⟨⟨r.p.put, r.q, r.c⟩, ?_, rfl, ?_⟩
            · unfold Rp.cs Pg.put; simp [hh]
            · have : r.p.put.data = r.p.data := by unfold Pg.put; simp [hh]
              simp only [this]
              exact hrd
        subst hw0
        have hlw : isLK 42 k41 (some (Loc.cells 42 w.cs)) = true := rfl
        simp only [look_cons, look_nil, reduceIte, hlw, Bool.or_false, req_true, locCells_c, eo]
        unfold putP at h2 hs2 hb2 ⊢
        by_cases g1 : r.p.addr < 0 ∨ r.p.addr ≥ 65536
        · rw [if_pos g1] at h2 ⊢
          have e : (bif !decide (r.p.addr < 0) then decide (r.p.addr > 65535) else true) = true := by
            rcases g1 with g1 | g1
            · simp [g1]
            · have a1 : ¬ r.p.addr < 0 := by omega
              have a2 : r.p.addr > 65535 := by omega
              simp [a1, a2]
          rw [e, br_true]
          simp only [decide_true, Bool.not_true, br_false]
          exact met hls hs hb h2
        · rw [if_neg g1] at h2 hs2 hb2 ⊢
          have e : (bif !decide (r.p.addr < 0) then decide (r.p.addr > 65535) else true) = false := by
            have a1 : ¬ r.p.addr < 0 := by omega
            have a2 : ¬ r.p.addr > 65535 := by omega
            simp [a1, a2]
          rw [e, br_false]
          by_cases g2 : r.p.data.length > 64
          · rw [if_pos g2] at h2 ⊢
            have e : (r.p.data.length : Int) > 64 := by omega
            rw [decide_eq_true e, br_true]
            simp only [decide_true, Bool.not_true, br_false]
            exact met hls hs hb h2
          · rw [if_neg g2] at h2 hs2 hb2 ⊢
            have e : ¬ (r.p.data.length : Int) > 64 := by omega
            rw [decide_eq_false e, br_false]
            have h3 := h2.swap
            have hle4 := h3.rwLe
            rw [List.length_map] at hle4
            cases hh : hasP ps r.p.addr
            · rw [hh] at h2 hs2 hb2
              simp only [Bool.false_eq_true, if_false] at h2 hs2 hb2 ⊢
              rw [br_false]
              by_cases g3 : ps.length ≥ 8
              · rw [if_pos g3] at h2 ⊢
                have e : (ps.length : Int) = 8 := by omega
                rw [decide_eq_true e, br_true]
                simp only [decide_true, Bool.not_true, br_false]
                exact met hls hs hb h2
              · rw [if_neg g3] at h2 hs2 hb2 ⊢
                have e : ¬ (ps.length : Int) = 8 := by omega
                rw [decide_eq_false e, br_false]
                simp only [] at h2 hs2 hb2 ⊢
                generalize hat : posP ps r.p.addr = at' at *
                have f1 : 0 ≤ (at' : Int) := by omega
                have f2 : (at' : Int) ≤ (c4 : Int) := by omega
                have f3 : at' ≤ c4 := by omega
                have f5 : (at' : Int) ≤ (ps.length : Int) := by omega
                have f6 : ps.length ≤ c4 := by omega
                simp only [f1, f2, f3, f5, f6, decide_true, Bool.and_self, Bool.or_false, Bool.true_and, ble_dec, req_true, Int.toNat_natCast, ptrAdd_zero, Nat.sub_zero, Bool.not_true, br_false]
                have hr1 := rd_part (i := 0) (k := at') (h2.up 1).rwRd (raw_fit ls).uni (by rw [List.length_map]; omega)
                rw [Nat.zero_mul, ptrAdd_zero, List.drop_zero] at hr1
                have l1 : ((ls.map Rp.cs).take at').length = at' := by simp; omega
                have ha1 := fun K => (h2.rwNil 42 3).rwApp (t := 36) (u := 36) (c2 := c4) (K := K) el_page sl_page page_z rfl (by omega) hr1 ((raw_fit ls).uni.take _) (by rw [l1]; simp; omega)
                rw [l1] at ha1
                refine ha1 _ (fun q5 c5 H5 h5 => ?_)
                rw [List.nil_append] at h5
                have ha2 := fun K => h5.rwPush (t := 36) (u := 36) (K := K) el_page sl_page page_z rfl (by omega) ((raw_fit ls).uni.take _) (e2 := 42) (c := w.cs) rfl (fits_one w.fits) (by rw [l1]; omega)
                rw [l1] at ha2
                simp only [List.length_nil, Nat.zero_add] at ha2 ⊢
                refine ha2 _ (fun q6 c6 H6 h6 => ?_)
                have hr2 := rd_part (i := at') (k := ls.length - at') (h6.up 2).rwRd (raw_fit ls).uni (by rw [List.length_map]; omega)
                have l2 : (((ls.map Rp.cs).drop at').take (ls.length - at')).length = ps.length - at' := by simp; omega
                have l3 : ((ls.map Rp.cs).drop at').take (ls.length - at') = (ls.map Rp.cs).drop at' := List.take_of_length_le (by simp)
                have l4 : ((ls.map Rp.cs).take at' ++ [w.cs]).length = at' + 1 := by simp; omega
                have hu6 : Uni 3 ((ls.map Rp.cs).take at' ++ [w.cs]) := ((raw_fit ls).uni.take _).append ((Uni.nil 3).cons rfl (fits_one w.fits))
                have ha3 := fun K => h6.rwApp (t := 36) (u := 36) (c2 := c4 - at') (K := K) el_page sl_page page_z rfl (by omega) hr2 (((raw_fit ls).uni.drop _).take _) (by rw [l4, l2]; omega)
                rw [l4, l2] at ha3
                refine ha3 _ (fun q7 c7 H7 h7 => ?_)
                rw [l3] at h7
                have hlen : at' + 1 + (ps.length - at') = (ps.take at' ++ w.p :: ps.drop at').length := by simp; omega
                rw [← hwp] at h7 hs2 hb2
                rw [hlen]
                refine met (ls' := ls.take at' ++ w :: ls.drop at') (ls_ins hls hwr at') hs2 hb2 ?_
                have hm : (ls.take at' ++ w :: ls.drop at').map Rp.cs = (ls.map Rp.cs).take at' ++ [w.cs] ++ (ls.map Rp.cs).drop at' := by simp
                rw [hm]
                exact ((h7.up 2).drop).swap
            · rw [hh] at h2 hs2 hb2
              simp only [if_true] at h2 hs2 hb2 ⊢
              rw [br_true]
              obtain ⟨g1, g2⟩ := (hasP_iff hs.up).1 hh
              have f1 : 0 ≤ ((posP ps r.p.addr : Nat) : Int) := by omega
              have f2 : ((posP ps r.p.addr : Nat) : Int) < (ps.length : Int) := by omega
              have hsm : q4.isSome = true := (read_page h3.rwRd (show posP ps r.p.addr < ls.length by omega)).1
              obtain ⟨w1, w2⟩ := h3.rwSet (raw_fit ls).uni (i := posP ps r.p.addr) (by rw [List.length_map]; omega) (c := w.cs) rfl (fits_one w.fits)
              simp only [decide_true, Bool.not_true, br_false, f1, f2, hsm, Bool.and_self, req_true, Int.toNat_natCast, w1]
              rw [hh] at w2
              simp only [if_true] at w2
              rw [← hwp] at w2 hs2 hb2
              have hl2 : (ps.set (posP ps r.p.addr) w.p).length = ps.length := List.length_set
              rw [← hl2]
              refine met (ls' := ls.set (posP ps r.p.addr) w) (ls_set hls hwr _) hs2 hb2 ?_
              rw [List.map_set]
              exact w2.swap

theorem law_CachePlays (h0 : Sat H H []) (q : Option (Nat × Nat)) (len cap : Nat) (hs : SlTy env.P H 59 q len cap) :
    Am.Rec.call (Am.Run env) 11 [.slice q len cap] H fun v _ => v = .bool true := by
  obtain ⟨sc, rfl, hsc, hok⟩ := script_in hs
  rw [eq11]
  refine sp_awake h0 (fun H1 h1 => ?_)
  simp only [joinP_eq, br_true, br_false, req_true, look_cons, look_nil, reduceIte, reduceCtorEq, T_val_v, isKT_k, isKT_agg, isKT_lp, isLK_c, locCells_c, nthV_zero, nthV_one, nthV_two, vals_tuple, aggCells_agg, isAgg_agg, getInt_int, getBool_bool, getStr_str, getPtr_ptr, slPtr_slice, slLen_slice, slCap_slice, isK_int, isK_bool, isK_str, isK_ptr, isK_slice, isTuple_tuple, List.length_cons, List.length_nil, Bool.and_true, Bool.true_and, Bool.or_false, Bool.false_or, Bool.and_self, decide_true, decide_false, Bool.not_true, Bool.not_false, beq_dec, ble_dec, Nat.reduceAdd, Nat.reduceEqDiff, Nat.reduceEqDiff]
  have h2 := new_cache h1
  have h3 := (h2.rwNil 42 3).swap
  refine lp_plays (ps := []) (ls := []) hsc hok (min sc.length 60) 0 (by omega) ⟨rfl, fun r hr => by cases hr⟩ sortNil (by simp) h3 (fun ps H4 s4 l4 h4 => ?_)
  simp only [joinP_eq, br_true, br_false, req_true, look_cons, look_nil, reduceIte, reduceCtorEq, T_val_v, isKT_k, isKT_agg, isKT_lp, isLK_c, locCells_c, nthV_zero, nthV_one, nthV_two, vals_tuple, aggCells_agg, isAgg_agg, getInt_int, getBool_bool, getStr_str, getPtr_ptr, slPtr_slice, slLen_slice, slCap_slice, isK_int, isK_bool, isK_str, isK_ptr, isK_slice, isTuple_tuple, List.length_cons, List.length_nil, Bool.and_true, Bool.true_and, Bool.or_false, Bool.false_or, Bool.and_self, decide_true, decide_false, Bool.not_true, Bool.not_false, beq_dec, ble_dec, Nat.reduceAdd, Nat.reduceEqDiff, Nat.reduceEqDiff]
  have hn : hasP ps 70000 = false := by
    cases hh : hasP ps 70000
    · rfl
    · exfalso
      have := mem_addr.1 hh
      obtain ⟨p, hp, he⟩ := List.mem_map.1 this
      have := s4.lo p hp
      omega
  refine sp_Get h4 s4 l4 ⟨by omega, by omega⟩ (fun _ H5 h5 => ?_) (fun hp q5 c5 H5 hy _ _ => by rw [hn] at hy; cases hy)
  simp only [joinP_eq, br_true, br_false, req_true, look_cons, look_nil, reduceIte, reduceCtorEq, T_val_v, isKT_k, isKT_agg, isKT_lp, isLK_c, locCells_c, nthV_zero, nthV_one, nthV_two, vals_tuple, aggCells_agg, isAgg_agg, getInt_int, getBool_bool, getStr_str, getPtr_ptr, slPtr_slice, slLen_slice, slCap_slice, isK_int, isK_bool, isK_str, isK_ptr, isK_slice, isTuple_tuple, List.length_cons, List.length_nil, Bool.and_true, Bool.true_and, Bool.or_false, Bool.false_or, Bool.and_self, decide_true, decide_false, Bool.not_true, Bool.not_false, beq_dec, ble_dec, Nat.reduceAdd, Nat.reduceEqDiff, Nat.reduceEqDiff, f41, oc41, n41_0, n41_1, n41_2]

end
end Go.Proofs.Ytpodpakpgolipaa
