/- The law CachePlays of layer 11: the rounds. -/
import Derived.Test.YtpodpakpgolipaaCacheN
namespace Go.Proofs.Ytpodpakpgolipaa
open Go.Am
set_option maxRecDepth 100000
set_option linter.unusedSimpArgs false
set_option linter.unusedVariables false
set_option linter.unusedSectionVars false

theorem posP_self {ps : List Pg} (hs : SortP ps) {i : Nat} (hi : i < ps.length) : posP ps (ps[i]).addr = i := by
  symm
  refine posP_uniq hs.up (by omega) (fun h0 => ?_) (fun h => Int.le_refl _)
  exact (List.pairwise_iff_getElem.1 hs.up) (i - 1) i (by omega) hi (by omega)

theorem hasP_self {ps : List Pg} {i : Nat} (hi : i < ps.length) : hasP ps (ps[i]).addr = true := mem_addr.2 (List.mem_map.2 ⟨_, List.getElem_mem hi, rfl⟩)

section
variable {B : Am.Heap} {L : List Ast} {H : Am.Heap} {K : V → Am.Heap → Prop} {id : Nat} {ps : List Pg}

theorem sp_same {a a' : Int} {q q' : Option (Nat × Nat)} {b b' : List UInt8} {c c' : Nat} {x x' : Bool} (h1 : RdB H q b) (h2 : RdB H q' b') :
    Am.Rec.call (Am.Run env) 30 [.agg (c41 a q b.length c x), .agg (c41 a' q' b'.length c' x')] H K = K (.bool (decide (a = a') && (decide (x = x') && decide (b = b')))) H := by
  rw [eq30]
  by_cases e1 : a = a'
  · by_cases e2 : x = x'
    · simp [e1, e2, h1.strOk, h1.strAt, h2.strOk, h2.strAt, strEq_of] <;> exact Iff.rfl
    · simp [e1, e2] <;> exact Iff.rfl
  · simp [e1] <;> exact Iff.rfl

/-- The list of the law. -/
structure LsOk (B : Am.Heap) (ls : List Rp) (ps : List Pg) : Prop where
  eq : ls.map Rp.p = ps
  rd : ∀ r ∈ ls, RdB B r.q r.p.data

theorem lp_cmp {q14 q4 : Option (Nat × Nat)} {c14 c4 : Nat} {al ls : List Rp} (hal : al.map Rp.p = ps) (hls : LsOk B ls ps) (hs : SortP ps) (hb : ps.length ≤ 8) {x0q : Option (Nat × Nat)} {x0n x0c : Nat} {x5 : Int} {Kr : Am.St → Prop} {Ke : Nat → Am.St → Prop} :
    ∀ (n i : Nat) {H : Am.Heap}, i + n = ls.length → Sat B H (Rw 42 3 q14 c14 (al.map Rp.cs) :: bigA (al.map Rp.dat) :: CacheA id ps :: Rw 42 3 q4 c4 (ls.map Rp.cs) :: L) →
    (∀ H', Sat B H' (CacheA id ps :: Rw 42 3 q4 c4 (ls.map Rp.cs) :: L) → Ke 5 (St.mk (Am.look [(0, T.v (V.slice x0q x0n x0c)), (3, T.v (V.ptr (some (id, 0)))), (4, T.v (V.slice q4 ls.length c4)), (5, T.v (V.int .i64 x5))]) (Am.look []) H')) →
    Am.Rec.loop (Am.Run env) (Am.loopAt env 11 73) 11 73
      (St.mk (Am.look [(0, T.v (V.slice x0q x0n x0c)), (3, T.v (V.ptr (some (id, 0)))), (4, T.v (V.slice q4 ls.length c4)), (5, T.v (V.int .i64 x5)), (14, T.v (V.slice q14 ls.length c14)), (15, T.v (V.int .i64 (i : Int)))]) (Am.look []) H) Kr Ke
  | 0, i, H, hi, h, k => by
    obtain rfl : i = ls.length := by omega
    rw [lp11_73]
    have e1 : ¬ (ls.length : Int) < (ls.length : Int) := by omega
    rw [decide_eq_false e1, br_false]
    exact k H h.drop.drop
  | n + 1, i, H, hi, h, k => by
    have hlt : i < ls.length := by omega
    have hll : ls.length = ps.length := by rw [← hls.eq, List.length_map]
    have hla : al.length = ps.length := by rw [← hal, List.length_map]
    have hpi : i < ps.length := by omega
    have pl : ls[i].p = ps[i] := by
      have := hls.eq; subst this; rw [List.getElem_map]
    have pa : (al[i]'(by omega)).p = ps[i] := by
      subst hal; rw [List.getElem_map]
    have hr4 := (h.up 3).rwRd
    obtain ⟨i1, v1⟩ := cell_page hr4 hlt
    obtain ⟨s1, s2, s3⟩ := read_page hr4 hlt
    have e1 : (i : Int) < (ls.length : Int) := by omega
    have e2 : 0 ≤ (i : Int) := by omega
    have hadr := hs.lo _ (List.getElem_mem hpi)
    rw [lp11_73]
    simp only [e1, e2, s1, i1, v1, Int.toNat_natCast, decide_true, br_true, Bool.and_self, req_true, isK_int, getInt_int, pl]
    have hC := h.up 2
    simp only [nthA, outA] at hC
    refine sp_Get hC hs hb ⟨by omega, by omega⟩ (fun hn => by rw [hasP_self hpi] at hn; cases hn) (fun hp q5 c5 H5 _ _ h5 => ?_)
    simp only [posP_self hs hpi] at h5 ⊢
    have h14 := (h5.up 2).rwRd
    have h4 := (h5.up 4).rwRd
    obtain ⟨a1, a2, a3⟩ := read_page h14 (show i < al.length by omega)
    obtain ⟨b1, b2, b3⟩ := read_page h4 hlt
    have hda := raw_data (h5.up 3) (show i < al.length by omega)
    rw [pa] at hda
    have hdl : RdB H5 ls[i].q (ps[i]).data := by
      have := h5.rdB (hls.rd _ (List.getElem_mem hlt))
      rw [pl] at this
      exact this
    have ca : (al[i]'(by omega)).cs = c41 (ps[i]).addr (al[i]'(by omega)).q (ps[i]).data.length (al[i]'(by omega)).c (ps[i]).hole := by unfold Rp.cs; rw [pa]
    have cl : ls[i].cs = c41 (ps[i]).addr ls[i].q (ps[i]).data.length ls[i].c (ps[i]).hole := by unfold Rp.cs; rw [pl]
    simp only [joinP_eq, br_true, br_false, req_true, look_cons, look_nil, reduceIte, reduceCtorEq, T_val_v, isKT_k, isKT_agg, isKT_lp, isLK_c, locCells_c, nthV_zero, nthV_one, nthV_two, vals_tuple, aggCells_agg, isAgg_agg, getInt_int, getBool_bool, getStr_str, getPtr_ptr, slPtr_slice, slLen_slice, slCap_slice, isK_int, isK_bool, isK_str, isK_ptr, isK_slice, isTuple_tuple, List.length_cons, List.length_nil, Bool.and_true, Bool.true_and, Bool.or_false, Bool.false_or, Bool.and_self, decide_true, decide_false, Bool.not_true, Bool.not_false, beq_dec, ble_dec, Nat.reduceAdd, Nat.reduceEqDiff, Nat.reduceEqDiff, f41, oc41, n41_0, n41_1, n41_2, e1, e2, a1, a2, a3, b1, b2, b3, ca, cl, sp_same hda hdl, sp_same h5.bytRd hdl]
    rw [wrap_succ (by omega)]
    have h6 := h5.drop
    have h7 := h6.up 2
    simp only [nthA, outA] at h7
    have h8 := h7.up 2
    simp only [nthA, outA] at h8
    exact lp_cmp hal hls hs hb n (i + 1) (by omega) h8 k

end
end Go.Proofs.Ytpodpakpgolipaa
