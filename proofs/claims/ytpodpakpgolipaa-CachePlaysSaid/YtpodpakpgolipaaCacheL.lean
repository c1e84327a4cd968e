/- The laws of layer 11: the example, holes, a full cache. -/
import Derived.Test.YtpodpakpgolipaaCacheC
import Derived.Test.YtpodpakpgolipaaAmIn
namespace Go.Proofs.Ytpodpakpgolipaa
open Go.Am
set_option maxRecDepth 100000
set_option linter.unusedSimpArgs false
set_option linter.unusedVariables false
set_option linter.unusedSectionVars false

theorem el_u8 : env.P.underlying 5 = some (.int .u8) := Try.underlying5
theorem cells_u8 : env.P.cellsOf 5 = 1 := by kernel_rfl

theorem mem_addr {ps : List Pg} {a : Int} : hasP ps a = true ↔ a ∈ ps.map Pg.addr := by
  unfold hasP
  rw [List.any_eq_true, List.mem_map]
  constructor
  · rintro ⟨p, h1, h2⟩; exact ⟨p, h1, by simpa using h2⟩
  · rintro ⟨p, h1, h2⟩; exact ⟨p, h1, by simpa using h2⟩

theorem put_has {ps : List Pg} (hs : SortP ps) {p : Pg} (hh : p.addr ∈ ps.map Pg.addr) (hd : p.data.length ≤ 64) : (putP ps p).2 = 0 ∧ (putP ps p).1.map Pg.addr = ps.map Pg.addr ∧ (putP ps p).1.length = ps.length := by
  have h1 := mem_addr.2 hh
  obtain ⟨g1, g2⟩ := (hasP_iff hs.up).1 h1
  have hr := hs.lo _ (List.getElem_mem g1)
  rw [g2] at hr
  unfold putP
  rw [if_neg (by omega), if_neg (by omega), if_pos h1]
  refine ⟨rfl, ?_, by simp⟩
  rw [List.map_set]
  apply List.ext_getElem
  · simp
  · intro i h3 h4
    rw [List.getElem_set]
    split
    · rename_i he; subst he; rw [List.getElem_map, g2]; rfl
    · rfl

theorem put_new {ps : List Pg} {p : Pg} (hh : p.addr ∉ ps.map Pg.addr) (hr : 0 ≤ p.addr ∧ p.addr ≤ 65535) (hd : p.data.length ≤ 64) (hl : ps.length < 8) :
    (putP ps p).2 = 0 ∧ (∀ a, a ∈ (putP ps p).1.map Pg.addr ↔ a ∈ ps.map Pg.addr ∨ a = p.addr) ∧ (putP ps p).1.length = ps.length + 1 := by
  have h1 : ¬ hasP ps p.addr = true := fun h => hh (mem_addr.1 h)
  have hle := posP_le ps p.addr
  unfold putP
  rw [if_neg (by omega), if_neg (by omega), if_neg h1, if_neg (by omega)]
  refine ⟨rfl, fun a => ?_, by simp; omega⟩
  have e : ps.map Pg.addr = (ps.take (posP ps p.addr)).map Pg.addr ++ (ps.drop (posP ps p.addr)).map Pg.addr := by rw [← List.map_append, List.take_append_drop]
  rw [e]
  have hpa : p.put.addr = p.addr := rfl
  simp only [List.map_append, List.map_cons, List.mem_append, List.mem_cons, hpa]
  constructor
  · rintro (h | h | h)
    · exact .inl (.inl h)
    · exact .inr h
    · exact .inl (.inr h)
  · rintro ((h | h) | h)
    · exact .inl h
    · exact .inr (.inr h)
    · exact .inr (.inl h)

theorem put_busy {ps : List Pg} {p : Pg} (hh : p.addr ∉ ps.map Pg.addr) (hr : 0 ≤ p.addr ∧ p.addr ≤ 65535) (hd : p.data.length ≤ 64) (hl : 8 ≤ ps.length) : putP ps p = (ps, 11) := by
  have h1 : ¬ hasP ps p.addr = true := fun h => hh (mem_addr.1 h)
  unfold putP
  rw [if_neg (by omega), if_neg (by omega), if_neg h1, if_pos (by omega)]

theorem drop_has {ps : List Pg} (hs : SortP ps) {a : Int} (hh : a ∈ ps.map Pg.addr) : (dropP ps a).length = ps.length - 1 ∧ ∀ b, b ∈ (dropP ps a).map Pg.addr ↔ b ∈ ps.map Pg.addr ∧ b ≠ a := by
  have h1 := mem_addr.2 hh
  obtain ⟨g1, g2⟩ := (hasP_iff hs.up).1 h1
  unfold dropP
  rw [if_pos h1]
  refine ⟨by rw [List.length_eraseIdx, if_pos g1], fun b => ?_⟩
  have hn : (ps.map Pg.addr).Nodup := by
    have := List.Pairwise.map Pg.addr (S := fun x y => x ≠ y) (fun x y (h : x.addr < y.addr) => by omega) hs.up
    exact this
  rw [map_erase]
  have hperm := perm_out (l := ps.map Pg.addr) (i := posP ps a) (by simpa using g1)
  have hn2 := hperm.nodup_iff.1 hn
  rw [List.getElem_map, g2] at hperm hn2
  rw [hperm.mem_iff, List.mem_cons]
  rw [List.nodup_cons] at hn2
  constructor
  · intro hb
    exact ⟨.inr hb, fun e => hn2.1 (e ▸ hb)⟩
  · rintro ⟨rfl | hb, hne⟩
    · exact absurd rfl hne
    · exact hb

theorem sortNil : SortP [] := ⟨List.Pairwise.nil, (fun p h => by cases h), (fun p h => by cases h)⟩

section
variable {B : Am.Heap} {L : List Ast} {H : Am.Heap} {K : V → Am.Heap → Prop} {cap : Nat} {q : Option (Nat × Nat)} {id : Nat} {ps : List Pg} {a : Int}

theorem new_cache (h : Sat B H L) : Sat B (H.alloc (.cells 38 [.slice none 0 0] false)) (CacheA H.next [] :: L) := by
  have h1 := h.alloc 38 [V.slice none 0 0]
  have h2 : Sat B (H.alloc (.cells 38 [.slice none 0 0] false)) (Rw 42 3 none 0 (([] : List Rp).map Rp.cs) :: bigA (([] : List Rp).map Rp.dat) :: blk H.next 38 [V.slice none 0 0] :: L) := h1.bigNil.rwNil _ _
  have h3 := h2.up 2
  simp only [nthA, outA] at h3
  exact Sat.uncache (rs := []) h3

/-- A row of one byte, written out. -/
theorem lit1 (h : Sat B H L) (b : UInt8) : Sat B (H.alloc (.cells 5 [V.int .u8 b.toNat] false)) (BY (some (H.next, 0)) 1 [b] :: L) :=
  h.newBuf (el := 5) (n := 1) (len := 1) (c := 1) (l := [V.int .u8 b.toNat]) (cs := bcells [b]) rfl (bcells_one _) (by omega) (by simp) rfl

theorem put_nil (h : Sat B H (CacheA id ps :: L)) (hs : SortP ps) (hl : ps.length ≤ 8) {x : Int} {hole : Bool} (ha : -9223372036854775808 ≤ x ∧ x ≤ 9223372036854775807)
    (k : ∀ H', Sat B H' (CacheA id (putP ps ⟨x, [], hole⟩).1 :: L) → K (.int .i64 (putP ps ⟨x, [], hole⟩).2) H') :
    Am.Rec.call (Am.Run env) 22 [.ptr (some (id, 0)), .agg (c41 x none 0 0 hole)] H K :=
  sp_Put (q := none) (cap := 0) h hs hl ⟨x, [], hole⟩ ha (fun _ => RdB.nil _ _) k

def aw1 : List Pg := [⟨3, [97], false⟩]
def aw2 : List Pg := [⟨1, [98], false⟩, ⟨3, [97], false⟩]
def aw3 : List Pg := [⟨1, [98], false⟩, ⟨3, [], true⟩]

theorem aw_1 : putP [] ⟨3, [97], false⟩ = (aw1, 0) := by rfl
theorem aw_2 : putP aw1 ⟨1, [98], false⟩ = (aw2, 0) := by rfl
theorem aw_3 : putP aw2 ⟨3, [], true⟩ = (aw3, 0) := by rfl

theorem sp_awake (h : Sat B H L) (k : ∀ H', Sat B H' L → K (.bool true) H') : Am.Rec.call (Am.Run env) 21 [] H K := by
  rw [eq21]
  have h1 := new_cache h
  have e0 : (Heap.alloc H (.cells 38 [V.slice none 0 0] false)).2 = H.next + 1 := rfl
  have h2 := lit1 h1 97
  have hw : Am.Heap.wr (Heap.alloc (Heap.alloc H (.cells 38 [V.slice none 0 0] false)) (.cells 5 [V.int .u8 97] false)) (Heap.alloc H (.cells 38 [V.slice none 0 0] false)).2 0 0 = true := by
    rw [wr_get (Heap.get_alloc _ _)]; rfl
  rw [hw, req_true]
  refine sp_Put (p := ⟨3, [97], false⟩) h2.swap sortNil (by simp) (by decide) (fun _ => h2.bytRd) (fun H3 h3 => ?_)
  rw [aw_1] at h3 ⊢
  have s1 : SortP aw1 := by have := sort_put sortNil ⟨3, [97], false⟩; rw [aw_1] at this; exact this
  have h4 := lit1 h3 98
  have hw2 : Am.Heap.wr (Heap.alloc H3 (.cells 5 [V.int .u8 98] false)) H3.2 0 0 = true := by rw [wr_get (Heap.get_alloc _ _)]; rfl
  simp only [isK_int, req_true]
  rw [hw2, req_true]
  refine sp_Put (p := ⟨1, [98], false⟩) h4.swap s1 (by decide) (by decide) (fun _ => h4.bytRd) (fun H5 h5 => ?_)
  rw [aw_2] at h5 ⊢
  have s2 : SortP aw2 := by have := sort_put s1 ⟨1, [98], false⟩; rw [aw_2] at this; exact this
  simp only [isK_int, req_true]
  refine put_nil h5 s2 (by decide) (by decide) (fun H6 h6 => ?_)
  rw [aw_3] at h6 ⊢
  have s3 : SortP aw3 := by have := sort_put s2 ⟨3, [], true⟩; rw [aw_3] at this; exact this
  simp only [isK_int, req_true]
  refine sp_All h6 s3 (by decide) (fun q7 c7 H7 h7 => ?_)
  obtain ⟨rs, hrs, h8⟩ := Sat.pages h7
  have hrd := h8.rwRd
  have hl2 : rs.length = 2 := by have := congrArg List.length hrs; simpa [aw3] using this
  obtain ⟨r0, r1, rfl⟩ : ∃ r0 r1, rs = [r0, r1] := by
    match rs, hl2 with
    | [r0, r1], _ => exact ⟨_, _, rfl⟩
  simp only [List.map_cons, List.map_nil, aw3, List.cons.injEq, and_true] at hrs
  obtain ⟨p0, p1⟩ := hrs
  have hne : (List.map Rp.cs [r0, r1]).flatten ≠ [] := by simp [Rp.cs, c41]
  have hl6 : (List.map Rp.cs [r0, r1]).flatten.length = 6 := rfl
  have i0 := hrd.inb0 (k := 1) (by rw [hl6]; omega) hne
  have i5 := hrd.inb (i := 3 + 2) (k := 1) (by rw [hl6]; decide) hne
  have i4 := hrd.inb (i := 3 + 1) (k := 1) (by rw [hl6]; omega) hne
  have c0 := hrd.cell (i := 0) (by rw [hl6]; omega)
  have c5 := hrd.cell (i := 3 + 2) (by rw [hl6]; omega)
  have c4 := hrd.cell (i := 3 + 1) (by rw [hl6]; omega)
  have v0 : Am.nthV (List.map Rp.cs [r0, r1]).flatten 0 = .int .i64 r0.p.addr := rfl
  have v5 : Am.nthV (List.map Rp.cs [r0, r1]).flatten (3 + 2) = .bool r1.p.hole := rfl
  have v4 : Am.nthV (List.map Rp.cs [r0, r1]).flatten (3 + 1) = .slice r1.q r1.p.data.length r1.c := rfl
  rw [v0, p0, Nat.add_zero] at c0
  rw [v5, p1] at c5
  rw [v4, p1] at c4
  have hsome := hrd.some hne
  have hal : ((aw3.length : Nat) : Int) = 2 := rfl
  rw [← Nat.add_assoc] at i5 i4 c5 c4
  simp only [isK_slice, slLen_slice, slPtr_slice, hal, i0, i5, i4, c0, c5, c4, hsome, req_true, isK_int, isK_bool, getInt_int, getBool_bool, mergeR_ite]
  have fin := k _ h8.drop.drop.drop.drop.drop
  simpa using fin

theorem law_CacheHoles (h0 : Sat H H []) (x0 : Int) (q1 : Option (Nat × Nat)) (n1 c1 : Nat) (q2 : Option (Nat × Nat)) (n2 c2 : Nat) (l0 : 0 ≤ x0) (g0 : x0 ≤ 65535) (hs1 : SlTy env.P H 5 q1 n1 c1) (hs2 : SlTy env.P H 5 q2 n2 c2) :
    Am.Rec.call (Am.Run env) 6 [.int .u16 x0, .slice q1 n1 c1, .slice q2 n2 c2] H fun v _ => v = .bool true := by
  obtain ⟨b1, rfl, hr1, hc1, _⟩ := bytes_in el_u8 cells_u8 hs1
  obtain ⟨b2, rfl, hr2, hc2, _⟩ := bytes_in el_u8 cells_u8 hs2
  rw [eq6]
  refine sp_awake h0 (fun H1 h1 => ?_)
  simp only [joinP_eq, br_true, br_false, req_true, look_cons, look_nil, reduceIte, reduceCtorEq, T_val_v, isKT_k, isKT_agg, isKT_lp, isLK_c, locCells_c, nthV_zero, nthV_one, nthV_two, vals_tuple, aggCells_agg, isAgg_agg, getInt_int, getBool_bool, getStr_str, getPtr_ptr, slPtr_slice, slLen_slice, slCap_slice, isK_int, isK_bool, isK_str, isK_ptr, isK_slice, isTuple_tuple, List.length_cons, List.length_nil, Bool.and_true, Bool.true_and, Bool.or_false, Bool.false_or, Bool.and_self, decide_true, decide_false, Bool.not_true, Bool.not_false, beq_dec, ble_dec, Nat.reduceAdd, Nat.reduceEqDiff, Nat.reduceEqDiff]
  by_cases hb : (b1.length : Int) > 64 ∨ (b2.length : Int) > 64
  · have e : (bif true then bif !decide ((b1.length : Int) > 64) then decide ((b2.length : Int) > 64) else true else true) = true := by
      rcases hb with hb | hb
      · simp [hb]
      · by_cases h : (b1.length : Int) > 64 <;> simp [h, hb]
    rw [e, br_true]
    refine sp_awake h1 (fun H2 h2 => ?_)
    simp only [joinP_eq, br_true, br_false, req_true, look_cons, look_nil, reduceIte, reduceCtorEq, T_val_v, isKT_k, isKT_agg, isKT_lp, isLK_c, locCells_c, nthV_zero, nthV_one, nthV_two, vals_tuple, aggCells_agg, isAgg_agg, getInt_int, getBool_bool, getStr_str, getPtr_ptr, slPtr_slice, slLen_slice, slCap_slice, isK_int, isK_bool, isK_str, isK_ptr, isK_slice, isTuple_tuple, List.length_cons, List.length_nil, Bool.and_true, Bool.true_and, Bool.or_false, Bool.false_or, Bool.and_self, decide_true, decide_false, Bool.not_true, Bool.not_false, beq_dec, ble_dec, Nat.reduceAdd, Nat.reduceEqDiff, Nat.reduceEqDiff]
  · have e1 : ¬ (b1.length : Int) > 64 := fun h => hb (.inl h)
    have e2 : ¬ (b2.length : Int) > 64 := fun h => hb (.inr h)
    have e : (bif true then bif !decide ((b1.length : Int) > 64) then decide ((b2.length : Int) > 64) else true else true) = false := by simp [e1, e2]
    rw [e, br_false, wrap_in (by omega) (by omega)]
    have h2 := new_cache h1
    refine sp_Put (p := ⟨x0, b1, false⟩) h2 sortNil (by simp) ⟨by simp only []; omega, by simp only []; omega⟩ (fun _ => h2.rdB hr1) (fun H3 h3 => ?_)
    obtain ⟨r1, r2, r3⟩ := put_new (ps := []) (p := ⟨x0, b1, false⟩) (by simp) ⟨l0, g0⟩ (by simp only []; omega) (by simp)
    have s1 := sort_put sortNil ⟨x0, b1, false⟩
    have hmem := (r2 x0).2 (.inr rfl)
    generalize (putP [] ⟨x0, b1, false⟩).1 = ps1 at h3 s1 r3 hmem
    simp only [isK_int, req_true]
    refine sp_Put (p := ⟨x0, b2, true⟩) h3 s1 (by rw [r3]; simp) ⟨by simp only []; omega, by simp only []; omega⟩ (fun _ => h3.rdB hr2) (fun H4 h4 => ?_)
    have s2 := sort_put s1 ⟨x0, b2, true⟩
    obtain ⟨t1, t2, t3⟩ := put_has s1 (p := ⟨x0, b2, true⟩) hmem (by simp only []; omega)
    -- the page that is there
    have hpg : ∀ (hp : posP (putP ps1 ⟨x0, b2, true⟩).1 x0 < (putP ps1 ⟨x0, b2, true⟩).1.length), ((putP ps1 ⟨x0, b2, true⟩).1[posP (putP ps1 ⟨x0, b2, true⟩).1 x0]).hole = true ∧ ((putP ps1 ⟨x0, b2, true⟩).1[posP (putP ps1 ⟨x0, b2, true⟩).1 x0]).data = [] := by
      have hone : ps1.length = 1 := by rw [r3]; rfl
      match ps1, hone, hmem with
      | [p], _, hmem =>
        have hpa : p.addr = x0 := by
          have : x0 = p.addr := by simpa using hmem
          exact this.symm
        have hpos : posP [p] x0 = 0 := by unfold posP; rw [if_neg (by omega)]
        have hput : (putP [p] ⟨x0, b2, true⟩).1 = [⟨x0, [], true⟩] := by
          unfold putP
          have hh : hasP [p] x0 = true := mem_addr.2 hmem
          simp only [hh, hpos]
          rw [if_neg (by omega), if_neg (by omega)]
          rfl
        rw [hput]
        intro hp
        have : posP [(⟨x0, [], true⟩ : Pg)] x0 = 0 := by unfold posP; rw [if_neg (by simp only []; omega)]
        simp only [this]
        exact ⟨rfl, rfl⟩
    rw [t1]
    have hm2 : hasP (putP ps1 ⟨x0, b2, true⟩).1 x0 = true := mem_addr.2 (by rw [t2]; exact hmem)
    generalize (putP ps1 ⟨x0, b2, true⟩).1 = ps2 at h4 s2 t3 hm2 hpg
    simp only [isK_int, req_true]
    refine sp_Get h4 s2 (by rw [t3, r3]; simp) ⟨by omega, by omega⟩ (fun hn => by rw [hm2] at hn; cases hn) (fun hp q5 c5 H5 _ hpa h5 => ?_)
    obtain ⟨u1, u2⟩ := hpg hp
    have hlen : ps2.length = 1 := by rw [t3, r3]; rfl
    rw [u1, u2]
    simp only [joinP_eq, br_true, br_false, req_true, look_cons, look_nil, reduceIte, reduceCtorEq, T_val_v, isKT_k, isKT_agg, isKT_lp, isLK_c, locCells_c, nthV_zero, nthV_one, nthV_two, vals_tuple, aggCells_agg, isAgg_agg, getInt_int, getBool_bool, getStr_str, getPtr_ptr, slPtr_slice, slLen_slice, slCap_slice, isK_int, isK_bool, isK_str, isK_ptr, isK_slice, isTuple_tuple, List.length_cons, List.length_nil, Bool.and_true, Bool.true_and, Bool.or_false, Bool.false_or, Bool.and_self, decide_true, decide_false, Bool.not_true, Bool.not_false, beq_dec, ble_dec, Nat.reduceAdd, Nat.reduceEqDiff, Nat.reduceEqDiff, f41, oc41, n41_0, n41_1, n41_2, List.length_nil]
    have h6 := h5.drop
    rw [sp_Len h6, hlen]
    simp

end
end Go.Proofs.Ytpodpakpgolipaa
