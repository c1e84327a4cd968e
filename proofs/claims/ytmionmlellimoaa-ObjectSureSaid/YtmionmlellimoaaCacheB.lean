/- The cache's calls. -/
import Derived.Test.YtmionmlellimoaaCacheA
namespace Go.Proofs.Ytmionmlellimoaa
open Go.Am
set_option maxRecDepth 100000
set_option linter.unusedSimpArgs false
set_option linter.unusedVariables false
set_option linter.unusedSectionVars false

/-- How many addresses are below. -/
def posP : List Pg → Int → Nat
  | [], _ => 0
  | p :: l, a => if p.addr < a then posP l a + 1 else 0

def hasP (ps : List Pg) (a : Int) : Bool := ps.any fun p => decide (p.addr = a)

/-- Rising addresses, in range. -/
structure SortP (ps : List Pg) : Prop where
  up : ps.Pairwise fun x y => x.addr < y.addr
  lo : ∀ p ∈ ps, 0 ≤ p.addr ∧ p.addr ≤ 65535
  dl : ∀ p ∈ ps, p.data.length ≤ 64

theorem posP_le : ∀ (ps : List Pg) (a : Int), posP ps a ≤ ps.length
  | [], _ => Nat.le_refl _
  | p :: l, a => by
    unfold posP
    split
    · have := posP_le l a; simp; omega
    · exact Nat.zero_le _

theorem posP_lt : ∀ {ps : List Pg} {a : Int} {i : Nat} (h : i < ps.length), i < posP ps a → (ps[i]).addr < a
  | p :: l, a, 0, _, h => by
    unfold posP at h
    split at h
    · assumption
    · omega
  | p :: l, a, i + 1, hl, h => by
    unfold posP at h
    split at h
    · exact posP_lt (ps := l) (Nat.lt_of_succ_lt_succ hl) (by omega)
    · omega

theorem posP_ge : ∀ {ps : List Pg} {a : Int} (hs : ps.Pairwise fun x y => x.addr < y.addr) {i : Nat} (h : i < ps.length), posP ps a ≤ i → a ≤ (ps[i]).addr
  | p :: l, a, hs, 0, _, h => by
    unfold posP at h
    split at h
    · omega
    · rename_i hn; simpa using hn
  | p :: l, a, hs, i + 1, hl, h => by
    obtain ⟨h1, h2⟩ := List.pairwise_cons.1 hs
    unfold posP at h
    split at h
    · exact posP_ge h2 (i := i) (Nat.lt_of_succ_lt_succ hl) (by omega)
    · rename_i hn
      have := h1 _ (List.getElem_mem (Nat.lt_of_succ_lt_succ hl))
      simp only [List.getElem_cons_succ]
      omega

/-- The place is where it changes. -/
theorem posP_uniq {ps : List Pg} {a : Int} (hs : ps.Pairwise fun x y => x.addr < y.addr) {i : Nat} (hi : i ≤ ps.length) (h1 : ∀ h : 0 < i, (ps[i - 1]'(by omega)).addr < a) (h2 : ∀ h : i < ps.length, a ≤ (ps[i]).addr) : i = posP ps a := by
  have hle := posP_le ps a
  rcases Nat.lt_trichotomy i (posP ps a) with h | h | h
  · have := posP_lt (ps := ps) (a := a) (i := i) (by omega) h
    have := h2 (by omega)
    omega
  · exact h
  · have := posP_ge (a := a) hs (i := i - 1) (by omega) (by omega)
    have := h1 (by omega)
    omega

theorem hasP_iff {ps : List Pg} {a : Int} (hs : ps.Pairwise fun x y => x.addr < y.addr) : hasP ps a = true ↔ ∃ h : posP ps a < ps.length, (ps[posP ps a]).addr = a := by
  unfold hasP
  rw [List.any_eq_true]
  constructor
  · rintro ⟨p, hp, he⟩
    have he : p.addr = a := by simpa using he
    obtain ⟨j, hj, rfl⟩ := List.getElem_of_mem hp
    have : posP ps a = j := by
      rcases Nat.lt_trichotomy j (posP ps a) with h | h | h
      · have := posP_lt (ps := ps) (a := a) (i := j) hj h
        omega
      · exact h.symm
      · have h3 := posP_ge (a := a) hs (i := posP ps a) (by omega) (Nat.le_refl _)
        have h4 := (List.pairwise_iff_getElem.1 hs) (posP ps a) j (by omega) hj h
        omega
    subst this
    exact ⟨hj, he⟩
  · rintro ⟨h, he⟩
    exact ⟨_, List.getElem_mem h, by simpa using he⟩

theorem search_res {rs : List Rp} {ps : List Pg} (he : rs.map Rp.p = ps) (hs : SortP ps) {a : Int} (ha : -9223372036854775808 ≤ a ∧ a ≤ 9223372036854775807) {i : Nat} (hi : EndAt rs a i) :
    foundA rs a i = hasP ps a ∧ (0 ≤ a ∧ a ≤ 1000000 → i = posP ps a) ∧ (hasP ps a = true → i = posP ps a) := by
  subst he
  obtain ⟨h1, h2, h3⟩ := hi
  have hl : (rs.map Rp.p).length = rs.length := List.length_map _
  have hr : ∀ k (hk : k < rs.length), 0 ≤ rs[k].p.addr ∧ rs[k].p.addr ≤ 65535 := fun k hk => hs.lo _ (by
    rw [List.mem_map]; exact ⟨_, List.getElem_mem hk, rfl⟩)
  have pos : 0 ≤ a ∧ a ≤ 1000000 → i = posP (rs.map Rp.p) a := by
    intro hr2
    refine posP_uniq hs.up (by omega) (fun h0 => ?_) (fun hlt => ?_)
    · rcases h2 with h2 | h2
      · omega
      · rw [cmpA_eq (by omega)] at h2
        have := hr (i - 1) (by omega)
        rw [wrap_in (by omega) (by omega)] at h2
        simp only [List.getElem_map]
        omega
    · rw [hl] at hlt
      rcases h3 with h3 | h3
      · omega
      · rw [cmpA_eq (by omega)] at h3
        have := hr i (by omega)
        rw [wrap_in (by omega) (by omega)] at h3
        simp only [List.getElem_map]
        omega
  have hasr : hasP (rs.map Rp.p) a = true → 0 ≤ a ∧ a ≤ 65535 := by
    intro h
    unfold hasP at h
    rw [List.any_eq_true] at h
    obtain ⟨p, hp, he⟩ := h
    have he : p.addr = a := by simpa using he
    have := hs.lo p hp
    omega
  have hiff : foundA rs a i = true ↔ hasP (rs.map Rp.p) a = true := by
    unfold foundA
    constructor
    · intro h
      rw [Bool.and_eq_true] at h
      have hlt : i < rs.length := by simpa using h.1
      have h0 : cmpA rs a i = 0 := by simpa using h.2
      rw [cmpA_eq hlt] at h0
      have hr' := hr i hlt
      have he : rs[i].p.addr = a := by
        rw [IntKind.wrap_i64] at h0
        omega
      unfold hasP
      rw [List.any_eq_true]
      exact ⟨rs[i].p, by rw [List.mem_map]; exact ⟨_, List.getElem_mem hlt, rfl⟩, by simpa using he⟩
    · intro h
      obtain ⟨r1, r2⟩ := hasr h
      have hp := pos ⟨r1, by omega⟩
      obtain ⟨g1, g2⟩ := (hasP_iff hs.up).1 h
      rw [hl] at g1
      have g2 : (rs[posP (rs.map Rp.p) a]).p.addr = a := by simpa using g2
      rw [hp, decide_eq_true g1, cmpA_eq g1, g2]
      have : IntKind.i64.wrap (a - a) = 0 := by rw [wrap_in (by omega) (by omega)]; omega
      rw [this]
      rfl
  refine ⟨?_, pos, fun h => pos ⟨(hasr h).1, by have := (hasr h).2; omega⟩⟩
  cases hf : foundA rs a i <;> cases hh : hasP (rs.map Rp.p) a <;> simp_all

/-- What a page comes to when it is put. -/
def Pg.put (p : Pg) : Pg := ⟨p.addr, if p.hole = true then [] else p.data, p.hole⟩

def putP (ps : List Pg) (p : Pg) : List Pg × Int :=
  if p.addr < 0 ∨ p.addr ≥ 65536 then (ps, 1) else if p.data.length > 64 then (ps, 2) else
  if hasP ps p.addr = true then (ps.set (posP ps p.addr) p.put, 0) else if ps.length ≥ 8 then (ps, 11) else
  (ps.take (posP ps p.addr) ++ p.put :: ps.drop (posP ps p.addr), 0)

def dropP (ps : List Pg) (a : Int) : List Pg := if hasP ps a = true then ps.eraseIdx (posP ps a) else ps

section
variable {B : Am.Heap} {L : List Ast} {H : Am.Heap} {K : V → Am.Heap → Prop} {cap : Nat} {q : Option (Nat × Nat)} {id : Nat} {ps : List Pg}

theorem ci : Nat.ble (0 + 1) [V.slice q cap cap].length = true := rfl

theorem sp_Len (h : Sat B H (CacheA id ps :: L)) : Am.Rec.call (Am.Run env) 39 [.ptr (some (id, 0))] H K = K (.int .i64 (ps.length : Int)) H := by
  obtain ⟨rs, q, cap, rfl, h2⟩ := Sat.cache h
  have hg := h2.get
  rw [eq39]
  have e1 : Nat.ble (0 + 1) [V.slice q rs.length cap].length = true := rfl
  simp only [Option.isNone_some, Option.isSome_some, Option.getD_some, br_false, req_true, inb_get hg, cell_get hg, e1, nthV_zero, isK_slice, slLen_slice, Bool.and_self, List.length_map]

/-- What a page is, and where its data lie. -/
theorem sp_Put (h : Sat B H (CacheA id ps :: L)) (hs : SortP ps) (hl : ps.length ≤ 8) (p : Pg) (ha : -9223372036854775808 ≤ p.addr ∧ p.addr ≤ 9223372036854775807) (hr : p.data.length ≤ 64 → RdB H q p.data)
    (k : ∀ H', Sat B H' (CacheA id (putP ps p).1 :: L) → K (.int .i64 (putP ps p).2) H') :
    Am.Rec.call (Am.Run env) 43 [.ptr (some (id, 0)), .agg (c72 p.addr q p.data.length cap p.hole)] H K := by
  rw [eq43]
  unfold putP at k
  rw [Option.isNone_some, br_false]
  by_cases h1 : p.addr < 0 ∨ p.addr ≥ 65536
  · rw [if_pos h1] at k
    have e : (bif !decide (p.addr < 0) then decide (p.addr ≥ 65536) else true) = true := by
      rcases h1 with h1 | h1
      · simp [h1]
      · have : ¬ p.addr < 0 := by omega
        simp [h1]
    rw [e, br_true]
    exact k H h
  · rw [if_neg h1] at k
    have e : (bif !decide (p.addr < 0) then decide (p.addr ≥ 65536) else true) = false := by
      have a1 : ¬ p.addr < 0 := by omega
      have a2 : ¬ p.addr ≥ 65536 := by omega
      simp [a1, a2]
    rw [e, br_false]
    by_cases h2 : p.data.length > 64
    · rw [if_pos h2] at k
      have e2 : ((p.data.length : Nat) : Int) > 64 := by omega
      rw [decide_eq_true e2, br_true]
      exact k H h
    · rw [if_neg h2] at k
      have e2 : ¬ ((p.data.length : Nat) : Int) > 64 := by omega
      rw [decide_eq_false e2, br_false]
      refine sp_Clone h (hr (by omega)) (by omega) (fun q1 c1 H1 h1' => ?_)
      simp only [isK_slice, req_true, slPtr_slice, slLen_slice, slCap_slice]
      refine joinP_br (fun S' hS => ?_)
      obtain ⟨r, hrp, hS, hsat⟩ : ∃ r : Rp, r.p = p.put ∧ S' = St.mk (Am.look []) (Am.look [(3, Loc.cells 73 r.cs)]) H1 ∧ Sat B H1 (r.dat :: CacheA id ps :: L) := by
        rcases hS with ⟨hh, rfl⟩ | ⟨hh, rfl⟩
        · refine ⟨⟨p.put, none, 0⟩, rfl, ?_, ?_⟩
          · unfold Rp.cs Pg.put; simp [hh]
          · have := bytNil h1'.drop
            unfold Rp.dat Pg.put; simpa [hh] using this
        · refine ⟨⟨p.put, q1, c1⟩, rfl, ?_, ?_⟩
          · unfold Rp.cs Pg.put; simp [hh]
          · unfold Rp.dat Pg.put; simpa [hh] using h1'
      subst hS
      have hra : r.p.addr = p.addr := by rw [hrp]; rfl
      obtain ⟨rs, qc, cc, rfl, hcs⟩ := Sat.cache hsat.swap
      rw [List.length_map] at hl
      have hg := hcs.get
      have hrd := (hcs.up 1).rwRd
      have hfx : Am.nthV r.cs 0 = .int .i64 p.addr := by rw [← hra]; rfl
      have e3 : isLK 73 k72 (some (Loc.cells 73 r.cs)) = true := rfl
      simp only [look_cons, reduceIte, e3, locCells_c, hfx, getInt_int, Bool.or_false, req_true]
      refine sp_at hg hrd (by omega) (fun i hi => ?_)
      obtain ⟨f1, f2, f3⟩ := search_res rfl hs ha hi
      have f2 := f2 ⟨by omega, by omega⟩
      subst f2
      rw [f1]
      have hpl := posP_le (rs.map Rp.p) p.addr
      rw [List.length_map] at hpl
      have e4 : Nat.ble (0 + 1) [V.slice qc rs.length cc].length = true := rfl
      have eo : o72 r.cs = r.cs := rfl
      simp only [joinP_eq, br_true, br_false, req_true, look_cons, look_nil, reduceIte, reduceCtorEq, T_val_v, isKT_k, isKT_agg, isKT_lp, isLK_c, locCells_c, nthV_zero, nthV_one, nthV_two, vals_tuple, aggCells_agg, isAgg_agg, getInt_int, getBool_bool, getStr_str, getPtr_ptr, slPtr_slice, slLen_slice, slCap_slice, isK_int, isK_bool, isK_str, isK_ptr, isK_slice, isTuple_tuple, List.length_cons, List.length_nil, Bool.and_true, Bool.true_and, Bool.or_false, Bool.false_or, Bool.and_self, decide_true, decide_false, Bool.not_true, Bool.not_false, beq_dec, ble_dec, Nat.reduceAdd, Nat.reduceEqDiff, Nat.reduceEqDiff, Option.isSome_some, Option.getD_some, inb_get hg, cell_get hg, e4, eo]
      cases hf : hasP (rs.map Rp.p) p.addr
      · rw [hf, if_neg (by simp)] at k
        simp only [br_false]
        by_cases h8 : rs.length ≥ 8
        · rw [if_pos (by simpa using h8)] at k
          have e5 : ((rs.length : Nat) : Int) ≥ 8 := by omega
          simp only [e5, decide_true, br_true]
          refine k H1 ?_
          exact (Sat.uncache hcs).swap.drop
        · rw [if_neg (by simpa using h8)] at k
          have e5 : ¬ ((rs.length : Nat) : Int) ≥ 8 := by omega
          simp only [e5, decide_false, br_false]
          -- the element in a block of its own
          have hal := (hcs.alloc 73 r.cs)
          generalize hH2 : H1.alloc (.cells 73 r.cs false) = H2 at hal ⊢
          have hal2 := hal.up 1
          simp only [nthA, outA] at hal2
          have hg2 := hal2.get
          have fin : ∀ {K : V → Am.Heap → Prop}, (∀ H', Sat B H' (CacheA id ((rs.map Rp.p).take (posP (rs.map Rp.p) p.addr) ++ p.put :: (rs.map Rp.p).drop (posP (rs.map Rp.p) p.addr)) :: L) → K (.int .i64 0) H') →
              Am.Rec.call (Am.Run env) 60 [V.slice qc rs.length cc, V.int .i64 ((posP (rs.map Rp.p) p.addr : Nat) : Int), V.slice (some (H1.next, 0)) 1 1] H2 fun v H' =>
                req (V.isK Kind.slice v) (req (Am.Heap.wr H' id 0 1) (K (.int .i64 0) (Am.Heap.store H' id 0 [V.slice (V.slPtr v) (V.slLen v) (V.slCap v)]))) := by
            intro K hk
            have hal3 := hal.up 2
            simp only [nthA, outA] at hal3
            have hne : ∀ id' off, qc = some (id', off) → H1.next ≠ id' := by
              intro id' off he
              subst he
              obtain ⟨_, _, _, ⟨h', _⟩ | ⟨id2, off2, l2, he2, _, _, h6⟩⟩ := (hcs.up 1).buf
              · cases h'
              · cases he2
                have := hcs.ok _ _ h6.get
                omega
            have hins := sp_Insert (i := posP (rs.map Rp.p) p.addr) (vid := H1.next) (e2 := 73) (c := r.cs) (K := fun v H' =>
              req (V.isK Kind.slice v) (req (Am.Heap.wr H' id 0 1) (K (.int .i64 0) (Am.Heap.store H' id 0 [V.slice (V.slPtr v) (V.slLen v) (V.slCap v)])))) hal3 (fun H' h' => h'.get) (raw_fit rs) r.fits (by simp; omega) (by simpa using hpl) hne
              (fun q' c' H' h' => ?_)
            · simpa using hins
            rw [List.length_map]
            simp only [isK_slice, req_true, slPtr_slice, slLen_slice, slCap_slice]
            have h5 := h'.up 2
            simp only [nthA, outA] at h5
            have hw : Am.Heap.wr H' id 0 1 = true := by rw [wr_get h5.get]; rfl
            rw [hw, req_true]
            have h6 := h5.store (off := 0) (vs := [V.slice q' (rs.length + 1) c'])
            have e6 : setMany [V.slice qc rs.length cc] 0 [V.slice q' (rs.length + 1) c'] = [V.slice q' (rs.length + 1) c'] := rfl
            rw [e6] at h6
            have h7 := h6.up 2
            simp only [nthA, outA] at h7
            have h8' := h7.drop
            -- blk id, Rw, bigA, dat, L
            have h9 := (h8'.up 3)
            simp only [nthA, outA] at h9
            have hlen : (rs.take (posP (rs.map Rp.p) p.addr) ++ r :: rs.drop (posP (rs.map Rp.p) p.addr)).length = rs.length + 1 := by simp; omega
            have h10 : Sat B (Am.Heap.store H' id 0 [V.slice q' (rs.length + 1) c']) (blk id 67 [V.slice q' (rs.take (posP (rs.map Rp.p) p.addr) ++ r :: rs.drop (posP (rs.map Rp.p) p.addr)).length c'] ::
                Rw 73 3 q' c' ((rs.take (posP (rs.map Rp.p) p.addr) ++ r :: rs.drop (posP (rs.map Rp.p) p.addr)).map Rp.cs) :: bigA ((rs.take (posP (rs.map Rp.p) p.addr) ++ r :: rs.drop (posP (rs.map Rp.p) p.addr)).map Rp.dat) :: L) := by
              rw [hlen]
              have h11 := (h9.up 3)
              simp only [nthA, outA] at h11
              have h12 : Sat B _ (bigA (r.dat :: rs.map Rp.dat) :: blk id 67 [V.slice q' (rs.length + 1) c'] :: Rw 73 3 q' c' ((rs.map Rp.cs).take (posP (rs.map Rp.p) p.addr) ++ r.cs :: (rs.map Rp.cs).drop (posP (rs.map Rp.p) p.addr)) :: L) := h11.swap.bigCons
              have h13 := h12.bigPerm (l' := (rs.take (posP (rs.map Rp.p) p.addr) ++ r :: rs.drop (posP (rs.map Rp.p) p.addr)).map Rp.dat) (by
                rw [List.map_append, List.map_cons, List.map_take, List.map_drop]
                conv => lhs; rw [← List.take_append_drop (posP (rs.map Rp.p) p.addr) (rs.map Rp.dat)]
                exact List.perm_middle.symm)
              have h14 := h13.up 1
              simp only [nthA, outA] at h14
              have h15 := h14.perm ((List.Perm.swap ..).cons _)
              rw [List.map_append, List.map_cons, List.map_take, List.map_drop]
              exact h15
            have h16 := Sat.uncache h10
            rw [List.map_append, List.map_cons, List.map_take, List.map_drop, hrp] at h16
            exact hk _ h16
          have hI1 : Am.Heap.inb H2 id 0 1 = true := by rw [inb_get hg2]; rfl
          have hC1 : Am.Heap.cell H2 id 0 = V.slice qc rs.length cc := by rw [cell_get hg2]; rfl
          simp only [hI1, hC1, isK_slice, slPtr_slice, slLen_slice, slCap_slice, Bool.and_self, req_true]
          exact ⟨fin k, fin k⟩
      · rw [hf, if_pos rfl] at k
        obtain ⟨g1, g2⟩ := (hasP_iff hs.up).1 hf
        rw [List.length_map] at g1
        have e5 : 0 ≤ ((posP (rs.map Rp.p) p.addr : Nat) : Int) := by omega
        have e6 : ((posP (rs.map Rp.p) p.addr : Nat) : Int) < (rs.length : Int) := by omega
        have hrw := hcs.up 1
        simp only [nthA, outA] at hrw
        obtain ⟨s1, s2, s3⟩ := read_page hrd g1
        obtain ⟨w1, w2⟩ := hrw.rwSet (raw_fit rs).uni (i := posP (rs.map Rp.p) p.addr) (by simpa using g1) (c := r.cs) rfl (fits_one r.fits)
        simp only [br_true, e5, e6, decide_true, s1, Bool.and_self, req_true, Int.toNat_natCast, w1]
        generalize Am.Heap.store H1 _ _ _ = H3 at w2 ⊢
        refine k _ ?_
        -- Rw set, blk, bigA, dat, L
        have h5 := w2.up 2
        simp only [nthA, outA] at h5
        have h6 := h5.bigOut (i := posP (rs.map Rp.p) p.addr) (by simpa using g1)
        have h7 := h6.drop.up 3
        simp only [nthA, outA] at h7
        have h8 := h7.bigIn (i := posP (rs.map Rp.p) p.addr) (by simpa using g1)
        have h9 : Sat B H3 (blk id 67 [V.slice qc (rs.set (posP (rs.map Rp.p) p.addr) r).length cc] :: Rw 73 3 qc cc ((rs.set (posP (rs.map Rp.p) p.addr) r).map Rp.cs) :: bigA ((rs.set (posP (rs.map Rp.p) p.addr) r).map Rp.dat) :: L) := by
          rw [List.length_set, List.map_set, List.map_set]
          have h10 := h8.up 2
          simp only [nthA, outA] at h10
          exact h10.perm ((List.Perm.swap ..).cons _)
        have h11 := Sat.uncache h9
        rw [List.map_set, hrp] at h11
        exact h11

end
end Go.Proofs.Ytmionmlellimoaa
