/- The reader in memory: its steps. -/
import Derived.Test.YtibkggbidojocaaDoorWordB
namespace Go.Proofs.YtibkggbidojocaaDoor
open Go.Am Go.Lib
set_option maxRecDepth 100000
set_option linter.unusedSimpArgs false
set_option linter.unusedVariables false
set_option linter.unusedSectionVars false

/-- The cells of a reader. -/
def rcs (q : Option (Nat × Nat)) (c : Nat) (ad qb : Option (Nat × Nat)) (cb : Nat) (σ : Wd) : List V :=
  c45 q σ.ws.length c ad qb σ.buf.length cb σ.inn σ.text σ.mark σ.shut

theorem rcs_len (q : Option (Nat × Nat)) (c : Nat) (ad qb : Option (Nat × Nat)) (cb : Nat) (σ : Wd) : (rcs q c ad qb cb σ).length = 7 := rfl

/-- A reader in memory: its cells, its words, its buffer. -/
def RdO (B : Am.Heap) (L : List Ast) (id : Nat) (σ : Wd) (q : Option (Nat × Nat)) (c : Nat) (ad qb : Option (Nat × Nat)) (cb : Nat) (H : Am.Heap) : Prop :=
  (ad = none ∨ ad = some (id, 1)) ∧ (∀ i o, qb = some (i, o) → o = 0) ∧ (σ.buf = [] → qb = none) ∧
    Sat B H (blk id 46 (rcs q c ad qb cb σ) :: Rw 9 1 q c (σ.ws.map st) :: BY qb cb σ.buf :: L)

def RdS (B : Am.Heap) (L : List Ast) (id : Nat) (σ : Wd) (H : Am.Heap) : Prop := ∃ q c ad qb cb, RdO B L id σ q c ad qb cb H

section

variable {B : Am.Heap} {L : List Ast} {H : Am.Heap} {K : V → Am.Heap → Prop} {id : Nat} {σ : Wd}

/-- What is known of a reader's block. -/
structure RF (H : Am.Heap) (id : Nat) (cs : List V) : Prop where
  get : H.get id = some (.cells 46 cs false)
  inb : ∀ k, k < 7 → H.inb id k 1 = true
  wr : ∀ k, k < 7 → H.wr id k 1 = true
  cell : ∀ k, H.cell id k = nthV cs k

theorem RF.of {cs : List V} (hl : cs.length = 7) (h : H.get id = some (.cells 46 cs false)) : RF H id cs :=
  ⟨h, fun k hk => by rw [inb_get h, hl]; exact Nat.ble_eq_true_of_le (by omega), fun k hk => by rw [wr_get h, hl]; exact Nat.ble_eq_true_of_le (by omega), fun k => cell_get h k⟩

theorem sp_Len {qb : Option (Nat × Nat)} {n c : Nat} {cs : List V} (hf : RF H id cs) (hc : nthV cs 2 = .slice qb n c) : Am.Rec.call (Am.Run env) 33 [.ptr (some (id, 1))] H K = K (.int .i64 (n : Int)) H := by
  rw [eq33]
  simp only [Option.isSome_some, Option.getD_some, hf.inb 2 (by omega), hf.cell, hc, joinP_eq, br_true, br_false, req_true, look_cons, look_nil, reduceIte, reduceCtorEq, T_val_v, isKT_k, isKT_agg, isKT_lp, isLK_c, locCells_c, nthV_zero, nthV_one, nthV_two, vals_tuple, aggCells_agg, isAgg_agg, getInt_int, getBool_bool, getStr_str, getPtr_ptr, slPtr_slice, slLen_slice, slCap_slice, isK_int, isK_bool, isK_str, isK_ptr, isK_slice, isTuple_tuple, List.length_cons, List.length_nil, Bool.and_true, Bool.true_and, Bool.or_false, Bool.false_or, Bool.and_self, decide_true, decide_false, Bool.not_true, Bool.not_false, beq_dec, ble_dec, Nat.reduceAdd, Nat.reduceEqDiff, Nat.reduceEqDiff]

theorem ext_cc (args : List V) (H : Am.Heap) (K : V → Am.Heap → Prop) : extCall env 50 args H K = ccRun env.P 44 args H K := by kernel_rfl
theorem ext_bs (args : List V) (H : Am.Heap) (K : V → Am.Heap → Prop) : extCall env 34 args H K = bsRun 5 args H K := by kernel_rfl
theorem lies_b : liesAt env.P env.P.depth 46 (7 / env.P.cellsOf 46) 1 44 1 = true := by kernel_rfl

/-- copyCheck: behind it the builder knows where it lies. -/
theorem sp_copyCheck {q ad qb : Option (Nat × Nat)} {c cb : Nat} (h : RdO B L id σ q c ad qb cb H) (k : ∀ H', RdO B L id σ q c (some (id, 1)) qb cb H' → K (.tuple []) H') :
    extCall env 50 [.ptr (some (id, 1))] H K := by
  obtain ⟨ha, hq, hn, h⟩ := h
  rw [ext_cc]
  have hg := h.get
  refine ⟨46, _, hg, by rw [rcs_len]; omega, by rw [rcs_len]; exact lies_b, ?_⟩
  rcases ha with rfl | rfl
  · left
    refine ⟨rfl, k _ ⟨.inr rfl, hq, hn, ?_⟩⟩
    exact h.store
  · right
    exact ⟨rfl, k _ ⟨.inr rfl, hq, hn, h⟩⟩

theorem sp_wByte (h : RdS B L id σ H) (hb : σ.buf.length ≤ 100000) (b : UInt8) (k : ∀ H', RdS B L id { σ with buf := σ.buf ++ [b] } H' → K .nilIface H') :
    Am.Rec.call (Am.Run env) 29 [.ptr (some (id, 1)), .int .u8 (b.toNat : Int)] H K := by
  obtain ⟨q, c, ad, qb, cb, h⟩ := h
  rw [eq29]
  refine sp_copyCheck h (fun H' h' => ?_)
  obtain ⟨_, hq, hn, h1⟩ := h'
  have hf := RF.of (rcs_len q c (some (id, 1)) qb cb σ) h1.get
  have hc2 : nthV (rcs q c (some (id, 1)) qb cb σ) 2 = .slice qb σ.buf.length cb := rfl
  simp only [Option.isSome_some, Option.getD_some, hf.inb 2 (by omega), hf.cell, hc2, joinP_eq, br_true, br_false, req_true, look_cons, look_nil, reduceIte, reduceCtorEq, T_val_v, isKT_k, isKT_agg, isKT_lp, isLK_c, locCells_c, nthV_zero, nthV_one, nthV_two, vals_tuple, aggCells_agg, isAgg_agg, getInt_int, getBool_bool, getStr_str, getPtr_ptr, slPtr_slice, slLen_slice, slCap_slice, isK_int, isK_bool, isK_str, isK_ptr, isK_slice, isTuple_tuple, List.length_cons, List.length_nil, Bool.and_true, Bool.true_and, Bool.or_false, Bool.false_or, Bool.and_self, decide_true, decide_false, Bool.not_true, Bool.not_false, beq_dec, ble_dec, Nat.reduceAdd, Nat.reduceEqDiff, Nat.reduceEqDiff]
  refine app_lit (src := [b]) (h1.up 2) rfl (by simp; omega) (fun q' c' H2 hq' h2 => ?_)
  have h3 := (h2.up 1)
  simp only [nthA, outA] at h3
  have hf2 := RF.of (rcs_len q c (some (id, 1)) qb cb σ) h3.get
  simp only [hf2.wr 2 (by omega), req_true]
  have h4 : Sat B (H2.store id 2 [.slice q' (σ.buf ++ [b]).length c']) (blk id 46 (rcs q c (some (id, 1)) q' c' { σ with buf := σ.buf ++ [b] }) :: BY q' c' (σ.buf ++ [b]) :: Rw 9 1 q c (σ.ws.map st) :: L) := h3.store
  refine k _ ⟨q, c, some (id, 1), q', c', .inr rfl, ?_, ?_, ?_⟩
  · rintro i o rfl
    rcases hq' with e | ⟨i', e⟩
    · exact hq i o e.symm
    · cases e; rfl
  · intro e; simp at e
  · have h5 := h4.up 2
    simp only [nthA, outA] at h5
    have h6 := h5.up 1
    simp only [nthA, outA] at h6
    exact h6

theorem sp_wRune {r : Nat} (h1 : r ≤ 1114111) (h2 : ¬ (55296 ≤ r ∧ r < 57344)) (h : RdS B L id σ H) (hb : σ.buf.length ≤ 100000) (k : ∀ v H', V.isTuple 2 v = true → V.isK (.int .i64) (nthV (V.vals v) 0) = true → V.isK .iface (nthV (V.vals v) 1) = true →
      RdS B L id { σ with buf := σ.buf ++ encodeRune (r : Int) } H' → K v H') :
    Am.Rec.call (Am.Run env) 30 [.ptr (some (id, 1)), .int .i32 (r : Int)] H K := by
  obtain ⟨q, c, ad, qb, cb, h⟩ := h
  rw [eq30]
  refine sp_copyCheck h (fun H' h' => ?_)
  obtain ⟨_, hq, hn, hs⟩ := h'
  have hf := RF.of (rcs_len q c (some (id, 1)) qb cb σ) hs.get
  have hc2 : nthV (rcs q c (some (id, 1)) qb cb σ) 2 = .slice qb σ.buf.length cb := rfl
  simp only [Option.isSome_some, Option.getD_some, hf.inb 2 (by omega), hf.cell, hc2, joinP_eq, br_true, br_false, req_true, look_cons, look_nil, reduceIte, reduceCtorEq, T_val_v, isKT_k, isKT_agg, isKT_lp, isLK_c, locCells_c, nthV_zero, nthV_one, nthV_two, vals_tuple, aggCells_agg, isAgg_agg, getInt_int, getBool_bool, getStr_str, getPtr_ptr, slPtr_slice, slLen_slice, slCap_slice, isK_int, isK_bool, isK_str, isK_ptr, isK_slice, isTuple_tuple, List.length_cons, List.length_nil, Bool.and_true, Bool.true_and, Bool.or_false, Bool.false_or, Bool.and_self, decide_true, decide_false, Bool.not_true, Bool.not_false, beq_dec, ble_dec, Nat.reduceAdd, Nat.reduceEqDiff, Nat.reduceEqDiff]
  refine sp_appRune h1 h2 (hs.up 2) (by omega) (fun q' c' H2 hq' hs2 => ?_)
  have h3 := (hs2.up 1)
  simp only [nthA, outA] at h3
  have hf2 := RF.of (rcs_len q c (some (id, 1)) qb cb σ) h3.get
  have h4 : Sat B (H2.store id 2 [.slice q' (σ.buf ++ encodeRune (r : Int)).length c']) (blk id 46 (rcs q c (some (id, 1)) q' c' { σ with buf := σ.buf ++ encodeRune (r : Int) }) :: BY q' c' (σ.buf ++ encodeRune (r : Int)) :: Rw 9 1 q c (σ.ws.map st) :: L) := h3.store
  have hf3 := RF.of (rcs_len q c (some (id, 1)) q' c' { σ with buf := σ.buf ++ encodeRune (r : Int) }) h4.get
  have hc3 : nthV (rcs q c (some (id, 1)) q' c' { σ with buf := σ.buf ++ encodeRune (r : Int) }) 2 = .slice q' (σ.buf ++ encodeRune (r : Int)).length c' := rfl
  simp only [hf2.wr 2 (by omega), hf3.inb 2 (by omega), hf3.cell, hc3, joinP_eq, br_true, br_false, req_true, look_cons, look_nil, reduceIte, reduceCtorEq, T_val_v, isKT_k, isKT_agg, isKT_lp, isLK_c, locCells_c, nthV_zero, nthV_one, nthV_two, vals_tuple, aggCells_agg, isAgg_agg, getInt_int, getBool_bool, getStr_str, getPtr_ptr, slPtr_slice, slLen_slice, slCap_slice, isK_int, isK_bool, isK_str, isK_ptr, isK_slice, isTuple_tuple, List.length_cons, List.length_nil, Bool.and_true, Bool.true_and, Bool.or_false, Bool.false_or, Bool.and_self, decide_true, decide_false, Bool.not_true, Bool.not_false, beq_dec, ble_dec, Nat.reduceAdd, Nat.reduceEqDiff, Nat.reduceEqDiff]
  refine k _ _ (by simp) (by simp) rfl ⟨q, c, some (id, 1), q', c', .inr rfl, ?_, ?_, ?_⟩
  · rintro i o rfl
    rcases hq' with e | ⟨i', e⟩
    · exact hq i o e.symm
    · cases e; rfl
  · intro e
    have := (encodeRuneZ_length (r : Int)).1
    have e2 := congrArg List.length e
    simp only [encodeRune, List.length_append, List.length_map, List.length_nil] at e2
    omega
  · have h5 := h4.up 2
    simp only [nthA, outA] at h5
    have h6 := h5.up 1
    simp only [nthA, outA] at h6
    exact h6

/-- String, of the buffer that a reader has: the buffer is not written any more. -/
theorem sp_bStr {q ad qb : Option (Nat × Nat)} {c cb : Nat} (h : RdO B L id σ q c ad qb cb H) (hb : σ.buf.length ≤ 100000)
    (k : ∀ H', Sat B H' (blk id 46 (rcs q c ad qb cb σ) :: Rw 9 1 q c (σ.ws.map st) :: L) → K (.str (strOf σ.buf)) H') :
    extCall env 34 [.ptr (some (id, 1))] H K := by
  obtain ⟨ha, hq, hn, h⟩ := h
  rw [ext_bs]
  have hg := h.get
  have h3 := h.up 2
  simp only [nthA, outA] at h3
  by_cases hb0 : σ.buf = []
  · have hqn := hn hb0
    subst hqn
    obtain ⟨_, _, _, ⟨_, hc, hs⟩ | ⟨i, o, l, e, _⟩⟩ := h3.buf
    · subst hc
      refine ⟨_, _, _, hg, .inl ⟨?_, ?_⟩⟩
      · show some (V.slice none σ.buf.length 0) = _
        rw [hb0]; rfl
      · have := k H hs
        rw [hb0] at this
        exact this
    · cases e
  · obtain ⟨e1, e2, e3, ⟨rfl, hc, hs⟩ | ⟨i, o, l, e, hl, ht, hs⟩⟩ := h3.buf
    · exfalso
      have : σ.buf.length = 0 := by omega
      exact hb0 (List.length_eq_zero_iff.1 this)
    · have ho := hq i o e
      subst ho
      subst e
      rw [List.drop_zero, bcells_len] at ht
      have hl2 : l = bcells σ.buf ++ l.drop σ.buf.length := by rw [← ht, List.take_append_drop]
      rw [hl2] at hs
      refine ⟨_, _, _, hg, .inr ⟨i, σ.buf, cb, l.drop σ.buf.length, rfl, hb0, e3, by omega, hs.get, ?_⟩⟩
      exact k _ hs.freeze

theorem sp_bReset {q ad qb : Option (Nat × Nat)} {c cb : Nat} {l : List Ast} (h : Sat B H (blk id 46 (rcs q c ad qb cb σ) :: l))
    (k : ∀ H', Sat B H' (blk id 46 (rcs q c none none 0 { σ with buf := [] }) :: l) → K (.tuple []) H') :
    Am.Rec.call (Am.Run env) 35 [.ptr (some (id, 1))] H K := by
  rw [eq35]
  have hf := RF.of (rcs_len q c ad qb cb σ) h.get
  have h2 : Sat B (H.store id 1 [.ptr none]) (blk id 46 (rcs q c none qb cb σ) :: l) := h.store
  have hf2 := RF.of (rcs_len q c none qb cb σ) h2.get
  simp only [Option.isSome_some, Option.getD_some, hf.wr 1 (by omega), hf2.wr 2 (by omega), joinP_eq, br_true, br_false, req_true, look_cons, look_nil, reduceIte, reduceCtorEq, T_val_v, isKT_k, isKT_agg, isKT_lp, isLK_c, locCells_c, nthV_zero, nthV_one, nthV_two, vals_tuple, aggCells_agg, isAgg_agg, getInt_int, getBool_bool, getStr_str, getPtr_ptr, slPtr_slice, slLen_slice, slCap_slice, isK_int, isK_bool, isK_str, isK_ptr, isK_slice, isTuple_tuple, List.length_cons, List.length_nil, Bool.and_true, Bool.true_and, Bool.or_false, Bool.false_or, Bool.and_self, decide_true, decide_false, Bool.not_true, Bool.not_false, beq_dec, ble_dec, Nat.reduceAdd, Nat.reduceEqDiff, Nat.reduceEqDiff]
  exact k _ h2.store

end

end Go.Proofs.YtibkggbidojocaaDoor
