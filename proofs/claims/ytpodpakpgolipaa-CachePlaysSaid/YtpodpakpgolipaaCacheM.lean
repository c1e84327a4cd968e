/- The laws of layer 11: a full cache; what may be written over. -/
import Derived.Test.YtpodpakpgolipaaCacheL
namespace Go.Proofs.Ytpodpakpgolipaa
open Go.Am
set_option maxRecDepth 100000
set_option linter.unusedSimpArgs false
set_option linter.unusedVariables false
set_option linter.unusedSectionVars false

section
variable {B : Am.Heap} {L : List Ast} {H : Am.Heap} {K : V → Am.Heap → Prop} {cap : Nat} {q : Option (Nat × Nat)} {id : Nat} {ps : List Pg} {a : Int}

/-- All addresses of a full cache, and those below so many. -/
def Among (ps : List Pg) (f : Int) (n : Nat) : Prop := ∀ a, a ∈ ps.map Pg.addr ↔ ∃ k : Nat, k < n ∧ a = f + 2 * (k : Int)

theorem lp_Full1 {bs : List UInt8} {f : Int} (hf : 0 ≤ f ∧ f < 60000) {Kr : Am.St → Prop} {Ke : Nat → Am.St → Prop} : ∀ (n i : Nat) {ps : List Pg} {H : Am.Heap}, i + n = 8 → SortP ps → ps.length = i → Among ps f i → Sat B H (CacheA id ps :: L) →
    (∀ ps' H', SortP ps' → ps'.length = 8 → Among ps' f 8 → Sat B H' (CacheA id ps' :: L) → Ke 0 (St.mk (Am.look [(1, T.v (V.slice q bs.length cap)), (5, T.v (V.ptr (some (id, 0)))), (6, T.v (V.int .i64 f))]) (Am.look []) H')) →
    Am.Rec.loop (Am.Run env) (Am.loopAt env 10 7) 10 7
      (St.mk (Am.look [(1, T.v (V.slice q bs.length cap)), (5, T.v (V.ptr (some (id, 0)))), (6, T.v (V.int .i64 f)), (7, T.v (V.int .i64 (i : Int)))]) (Am.look []) H) Kr Ke
  | 0, i, ps, H, hi, hs, hl, hm, h, k => by
    obtain rfl : i = 8 := by omega
    rw [lp10_7]
    have e1 : ¬ ((8 : Nat) : Int) < 8 := by omega
    rw [decide_eq_false e1, br_false]
    exact k ps H hs hl hm h
  | n + 1, i, ps, H, hi, hs, hl, hm, h, k => by
    rw [lp10_7]
    have e1 : (i : Int) < 8 := by omega
    rw [decide_eq_true e1, br_true, wrap_in (x := 2 * (i : Int)) (by omega) (by omega), wrap_in (x := f + 2 * (i : Int)) (by omega) (by omega), wrap_succ (by omega)]
    have hn : f + 2 * (i : Int) ∉ ps.map Pg.addr := by
      rw [hm]
      rintro ⟨k, h1, h2⟩
      omega
    obtain ⟨r1, r2, r3⟩ := put_new (p := ⟨f + 2 * (i : Int), [], false⟩) hn ⟨by simp only []; omega, by simp only []; omega⟩ (by simp) (by omega)
    have s1 := sort_put hs ⟨f + 2 * (i : Int), [], false⟩
    refine put_nil h hs (by omega) ⟨by omega, by omega⟩ (fun H' h' => ?_)
    rw [r1]
    simp only [isK_int, req_true, getInt_int, decide_true, Bool.not_true, br_false]
    refine lp_Full1 hf n (i + 1) (by omega) s1 (by rw [r3, hl]) (fun a => ?_) h' k
    rw [r2, hm]
    constructor
    · rintro (⟨k, h1, h2⟩ | h)
      · exact ⟨k, by omega, h2⟩
      · exact ⟨i, by omega, h⟩
    · rintro ⟨k, h1, h2⟩
      by_cases hk : k = i
      · subst hk; exact .inr h2
      · exact .inl ⟨k, by omega, h2⟩

theorem lp_Full2 {bs : List UInt8} (hr : RdB B q bs) (hb : bs.length ≤ 40) (hc : bs.length ≤ cap) {f : Int} (hf : 0 ≤ f ∧ f < 60000) {Kr : Am.St → Prop} {Ke : Nat → Am.St → Prop} : ∀ (n i : Nat) {ps : List Pg} {H : Am.Heap}, i + n = bs.length → SortP ps → ps.length = 8 → Among ps f 8 → Sat B H (CacheA id ps :: L) →
    (∀ ps' H', SortP ps' → ps'.length = 8 → Among ps' f 8 → Sat B H' (CacheA id ps' :: L) → Ke 2 (St.mk (Am.look [(5, T.v (V.ptr (some (id, 0)))), (6, T.v (V.int .i64 f))]) (Am.look []) H')) →
    Am.Rec.loop (Am.Run env) (Am.loopAt env 10 15) 10 15
      (St.mk (Am.look [(1, T.v (V.slice q bs.length cap)), (5, T.v (V.ptr (some (id, 0)))), (6, T.v (V.int .i64 f)), (8, T.v (V.int .i64 (i : Int)))]) (Am.look []) H) Kr Ke
  | 0, i, ps, H, hi, hs, hl, hm, h, k => by
    obtain rfl : i = bs.length := by omega
    rw [lp10_15]
    have e1 : ¬ (bs.length : Int) < (bs.length : Int) := by omega
    rw [decide_eq_false e1, br_false]
    exact k ps H hs hl hm h
  | n + 1, i, ps, H, hi, hs, hl, hm, h, k => by
    rw [lp10_15]
    have hlt : i < bs.length := by omega
    have e1 : (i : Int) < (bs.length : Int) := by omega
    obtain ⟨g1, g2, g3⟩ := (h.rdB hr).at hlt
    have hb8 := bs[i].toNat_lt
    have em : Int.tmod ((bs[i].toNat : Nat) : Int) 8 = ((bs[i].toNat % 8 : Nat) : Int) := by rw [Int.tmod_eq_emod_of_nonneg (by omega)]; omega
    generalize hk : bs[i].toNat % 8 = m at em
    have hm8 : m < 8 := by omega
    have ew : IntKind.i64.wrap ((i : Int) + 1) = ((i + 1 : Nat) : Int) := wrap_succ (by omega)
    have e2 : 0 ≤ (i : Int) := by omega
    have e3 : 0 ≤ ((i + 1 : Nat) : Int) := by omega
    have e4 : ((i + 1 : Nat) : Int) ≤ (cap : Int) := by omega
    have e5 : (i : Int) ≤ ((i + 1 : Nat) : Int) := by omega
    have e6 : i + 1 ≤ cap := by omega
    have ei : i + 1 - i = 1 := by omega
    have w1 : IntKind.i64.wrap (2 * IntKind.i64.wrap ((m : Nat) : Int)) = 2 * (m : Int) := by rw [wrap_i64_nat (by omega), wrap_in (by omega) (by omega)]
    have w2 : IntKind.i64.wrap (f + 2 * (m : Int)) = f + 2 * (m : Int) := wrap_in (by omega) (by omega)
    have w3 : IntKind.i64.wrap (f + 2 * (m : Int) + 1) = f + 2 * (m : Int) + 1 := wrap_in (by omega) (by omega)
    simp only [e1, e2, g1, g2, g3, ew, e3, e4, e5, e6, ei, em, w1, w2, w3, Int.toNat_natCast, Nat.mul_one, decide_true, br_true, Bool.and_self, req_true, isK_int, getInt_int, ble_dec]
    have hin : f + 2 * (m : Int) ∈ ps.map Pg.addr := (hm _).2 ⟨m, hm8, rfl⟩
    have hpart := (Rds.of (B := B) (L := CacheA id ps :: L) hr).part i 1 (by omega)
    have hl1 : ((bs.drop i).take 1).length = 1 := by simp; omega
    obtain ⟨r1, r2, r3⟩ := put_has hs (p := ⟨f + 2 * (m : Int), (bs.drop i).take 1, false⟩) hin (by simp only []; omega)
    have s1 := sort_put hs ⟨f + 2 * (m : Int), (bs.drop i).take 1, false⟩
    have hput := sp_Put (cap := cap - i) (q := ptrAdd q i) h hs (by omega) ⟨f + 2 * (m : Int), (bs.drop i).take 1, false⟩ ⟨by simp only []; omega, by simp only []; omega⟩ (fun _ => hpart H h) (K := fun v H' =>
      req (V.isK (Kind.int IntKind.i64) v) (br (!!decide (V.getInt v = 0)) (Am.Rec.call (Am.Run env) 22 [V.ptr (some (id, 0)), V.agg (c41 (f + 2 * (m : Int) + 1) Option.none 0 0 false)] H' fun v H' =>
        req (V.isK (Kind.int IntKind.i64) v) (br (!!decide (V.getInt v = 11)) (Am.Rec.call (Am.Run env) 24 [V.ptr (some (id, 0))] H' fun v H' =>
          req (V.isK (Kind.int IntKind.i64) v) (br (!decide (V.getInt v = 8)) (Kr (St.mk (Am.look [(4, T.v (V.bool false))]) (Am.look []) H'))
            (Am.Rec.loop (Am.Run env) (Am.loopAt env 10 15) 10 15
              (St.mk (Am.look [(1, T.v (V.slice q bs.length cap)), (5, T.v (V.ptr (some (id, 0)))), (6, T.v (V.int .i64 f)), (8, T.v (V.int .i64 ((i + 1 : Nat) : Int)))]) (Am.look []) H') Kr Ke)))
          (Kr (St.mk (Am.look [(4, T.v (V.bool false))]) (Am.look []) H'))))
      (Kr (St.mk (Am.look [(4, T.v (V.bool false))]) (Am.look []) H')))) (fun H2 h2 => ?_)
    · rw [hl1] at hput
      exact hput
    · rw [r1]
      simp only [isK_int, req_true, getInt_int, decide_true, Bool.not_true, Bool.not_false, br_true]
      generalize (putP ps ⟨f + 2 * (m : Int), (bs.drop i).take 1, false⟩).1 = ps2 at h2 s1 r2 r3
      have hm2 : Among ps2 f 8 := fun a => by rw [r2, hm]
      have hn2 : f + 2 * (m : Int) + 1 ∉ ps2.map Pg.addr := by
        rw [hm2]
        rintro ⟨k, h1, h2⟩
        omega
      have hbusy := put_busy (ps := ps2) (p := ⟨f + 2 * (m : Int) + 1, [], false⟩) hn2 ⟨by simp only []; omega, by simp only []; omega⟩ (by simp) (by omega)
      refine put_nil h2 s1 (by omega) ⟨by omega, by omega⟩ (fun H3 h3 => ?_)
      rw [hbusy] at h3 ⊢
      simp only [isK_int, req_true, getInt_int, decide_true, Bool.not_true, Bool.not_false, br_true]
      rw [sp_Len h3]
      have hl8 : ((ps2.length : Nat) : Int) = 8 := by rw [r3, hl]; rfl
      simp only [isK_int, req_true, getInt_int, hl8, decide_true, Bool.not_true, br_false]
      exact lp_Full2 hr hb hc hf n (i + 1) (by omega) s1 (by omega) hm2 h3 k

theorem law_CacheFull (h0 : Sat H H []) (x0 : Int) (q1 : Option (Nat × Nat)) (n1 c1 : Nat) (l0 : 0 ≤ x0) (g0 : x0 ≤ 65535) (hs1 : SlTy env.P H 5 q1 n1 c1) :
    Am.Rec.call (Am.Run env) 10 [.int .u16 x0, .slice q1 n1 c1] H fun v _ => v = .bool true := by
  obtain ⟨bs, rfl, hr, hc, _⟩ := bytes_in el_u8 cells_u8 hs1
  rw [eq10]
  refine sp_awake h0 (fun H1 h1 => ?_)
  simp only [joinP_eq, br_true, br_false, req_true, look_cons, look_nil, reduceIte, reduceCtorEq, T_val_v, isKT_k, isKT_agg, isKT_lp, isLK_c, locCells_c, nthV_zero, nthV_one, nthV_two, vals_tuple, aggCells_agg, isAgg_agg, getInt_int, getBool_bool, getStr_str, getPtr_ptr, slPtr_slice, slLen_slice, slCap_slice, isK_int, isK_bool, isK_str, isK_ptr, isK_slice, isTuple_tuple, List.length_cons, List.length_nil, Bool.and_true, Bool.true_and, Bool.or_false, Bool.false_or, Bool.and_self, decide_true, decide_false, Bool.not_true, Bool.not_false, beq_dec, ble_dec, Nat.reduceAdd, Nat.reduceEqDiff, Nat.reduceEqDiff]
  by_cases hb : (bs.length : Int) > 40
  · simp only [hb, decide_true, cond_true, br_true]
    refine sp_awake h1 (fun H2 h2 => ?_)
    simp only [joinP_eq, br_true, br_false, req_true, look_cons, look_nil, reduceIte, reduceCtorEq, T_val_v, isKT_k, isKT_agg, isKT_lp, isLK_c, locCells_c, nthV_zero, nthV_one, nthV_two, vals_tuple, aggCells_agg, isAgg_agg, getInt_int, getBool_bool, getStr_str, getPtr_ptr, slPtr_slice, slLen_slice, slCap_slice, isK_int, isK_bool, isK_str, isK_ptr, isK_slice, isTuple_tuple, List.length_cons, List.length_nil, Bool.and_true, Bool.true_and, Bool.or_false, Bool.false_or, Bool.and_self, decide_true, decide_false, Bool.not_true, Bool.not_false, beq_dec, ble_dec, Nat.reduceAdd, Nat.reduceEqDiff, Nat.reduceEqDiff]
  · simp only [hb, decide_false, cond_true, br_false]
    have hf : Int.tmod (IntKind.i64.wrap x0) 60000 = x0 % 60000 := by rw [wrap_in (by omega) (by omega), Int.tmod_eq_emod_of_nonneg l0]
    rw [hf]
    have hf2 : 0 ≤ x0 % 60000 ∧ x0 % 60000 < 60000 := by omega
    generalize x0 % 60000 = f at hf2
    have h2 := new_cache h1
    refine lp_Full1 (bs := bs) hf2 8 0 (by omega) sortNil rfl (fun a => by simp) h2 (fun ps3 H3 s3 l3 m3 h3 => ?_)
    simp only [joinP_eq, br_true, br_false, req_true, look_cons, look_nil, reduceIte, reduceCtorEq, T_val_v, isKT_k, isKT_agg, isKT_lp, isLK_c, locCells_c, nthV_zero, nthV_one, nthV_two, vals_tuple, aggCells_agg, isAgg_agg, getInt_int, getBool_bool, getStr_str, getPtr_ptr, slPtr_slice, slLen_slice, slCap_slice, isK_int, isK_bool, isK_str, isK_ptr, isK_slice, isTuple_tuple, List.length_cons, List.length_nil, Bool.and_true, Bool.true_and, Bool.or_false, Bool.false_or, Bool.and_self, decide_true, decide_false, Bool.not_true, Bool.not_false, beq_dec, ble_dec, Nat.reduceAdd, Nat.reduceEqDiff, Nat.reduceEqDiff]
    refine lp_Full2 hr (by omega) hc hf2 bs.length 0 (by omega) s3 l3 m3 h3 (fun ps4 H4 s4 l4 m4 h4 => ?_)
    simp only [joinP_eq, br_true, br_false, req_true, look_cons, look_nil, reduceIte, reduceCtorEq, T_val_v, isKT_k, isKT_agg, isKT_lp, isLK_c, locCells_c, nthV_zero, nthV_one, nthV_two, vals_tuple, aggCells_agg, isAgg_agg, getInt_int, getBool_bool, getStr_str, getPtr_ptr, slPtr_slice, slLen_slice, slCap_slice, isK_int, isK_bool, isK_str, isK_ptr, isK_slice, isTuple_tuple, List.length_cons, List.length_nil, Bool.and_true, Bool.true_and, Bool.or_false, Bool.false_or, Bool.and_self, decide_true, decide_false, Bool.not_true, Bool.not_false, beq_dec, ble_dec, Nat.reduceAdd, Nat.reduceEqDiff, Nat.reduceEqDiff]
    refine sp_Drop h4 s4 (by omega) ⟨by omega, by omega⟩ (fun H5 h5 => ?_)
    have hin : f ∈ ps4.map Pg.addr := (m4 _).2 ⟨0, by omega, by omega⟩
    obtain ⟨d1, d2⟩ := drop_has s4 hin
    have s5 := sort_drop s4 f
    generalize dropP ps4 f = ps5 at h5 d1 d2 s5
    rw [wrap_in (by omega) (by omega)]
    have hn5 : f + 1 ∉ ps5.map Pg.addr := by
      rw [d2, m4]
      rintro ⟨⟨k, h1, h2⟩, _⟩
      omega
    obtain ⟨r1, r2, r3⟩ := put_new (ps := ps5) (p := ⟨f + 1, [], false⟩) hn5 ⟨by simp only []; omega, by simp only []; omega⟩ (by simp) (by omega)
    have s6 := sort_put s5 ⟨f + 1, [], false⟩
    refine put_nil h5 s5 (by omega) ⟨by omega, by omega⟩ (fun H6 h6 => ?_)
    rw [r1]
    simp only [joinP_eq, br_true, br_false, req_true, look_cons, look_nil, reduceIte, reduceCtorEq, T_val_v, isKT_k, isKT_agg, isKT_lp, isLK_c, locCells_c, nthV_zero, nthV_one, nthV_two, vals_tuple, aggCells_agg, isAgg_agg, getInt_int, getBool_bool, getStr_str, getPtr_ptr, slPtr_slice, slLen_slice, slCap_slice, isK_int, isK_bool, isK_str, isK_ptr, isK_slice, isTuple_tuple, List.length_cons, List.length_nil, Bool.and_true, Bool.true_and, Bool.or_false, Bool.false_or, Bool.and_self, decide_true, decide_false, Bool.not_true, Bool.not_false, beq_dec, ble_dec, Nat.reduceAdd, Nat.reduceEqDiff, Nat.reduceEqDiff]
    generalize (putP ps5 ⟨f + 1, [], false⟩).1 = ps6 at h6 r2 r3 s6
    have hn6 : f ∉ ps6.map Pg.addr := by
      rw [r2, d2]
      rintro (⟨_, h⟩ | h)
      · exact h rfl
      · simp only [] at h; omega
    have hbusy := put_busy (ps := ps6) (p := ⟨f, [], false⟩) hn6 ⟨by simp only []; omega, by simp only []; omega⟩ (by simp) (by omega)
    refine put_nil h6 s6 (by omega) ⟨by omega, by omega⟩ (fun H7 h7 => ?_)
    rw [hbusy]
    simp only [joinP_eq, br_true, br_false, req_true, look_cons, look_nil, reduceIte, reduceCtorEq, T_val_v, isKT_k, isKT_agg, isKT_lp, isLK_c, locCells_c, nthV_zero, nthV_one, nthV_two, vals_tuple, aggCells_agg, isAgg_agg, getInt_int, getBool_bool, getStr_str, getPtr_ptr, slPtr_slice, slLen_slice, slCap_slice, isK_int, isK_bool, isK_str, isK_ptr, isK_slice, isTuple_tuple, List.length_cons, List.length_nil, Bool.and_true, Bool.true_and, Bool.or_false, Bool.false_or, Bool.and_self, decide_true, decide_false, Bool.not_true, Bool.not_false, beq_dec, ble_dec, Nat.reduceAdd, Nat.reduceEqDiff, Nat.reduceEqDiff]

theorem law_CacheKeeps (h0 : Sat H H []) (q1 : Option (Nat × Nat)) (n1 c1 : Nat) (x1 : Int) (hs1 : SlTy env.P H 5 q1 n1 c1) (l0 : 0 ≤ x1) (g0 : x1 ≤ 65535) :
    Am.Rec.call (Am.Run env) 12 [.slice q1 n1 c1, .int .u16 x1] H fun v _ => v = .bool true := by
  obtain ⟨bs, rfl, hr, hc, _⟩ := bytes_in el_u8 cells_u8 hs1
  rw [eq12]
  refine sp_awake h0 (fun H1 h1 => ?_)
  simp only [joinP_eq, br_true, br_false, req_true, look_cons, look_nil, reduceIte, reduceCtorEq, T_val_v, isKT_k, isKT_agg, isKT_lp, isLK_c, locCells_c, nthV_zero, nthV_one, nthV_two, vals_tuple, aggCells_agg, isAgg_agg, getInt_int, getBool_bool, getStr_str, getPtr_ptr, slPtr_slice, slLen_slice, slCap_slice, isK_int, isK_bool, isK_str, isK_ptr, isK_slice, isTuple_tuple, List.length_cons, List.length_nil, Bool.and_true, Bool.true_and, Bool.or_false, Bool.false_or, Bool.and_self, decide_true, decide_false, Bool.not_true, Bool.not_false, beq_dec, ble_dec, Nat.reduceAdd, Nat.reduceEqDiff, Nat.reduceEqDiff]
  by_cases hb : bs.length = 0 ∨ bs.length > 64
  · have e : (bif true then bif !decide ((bs.length : Int) = 0) then decide ((bs.length : Int) > 64) else true else true) = true := by
      rcases hb with hb | hb
      · have : (bs.length : Int) = 0 := by omega
        simp [this]
      · have h1 : (bs.length : Int) > 64 := by omega
        have h2 : ¬ (bs.length : Int) = 0 := by omega
        simp only [h1, h2, decide_true, decide_false, Bool.not_false, cond_true]
    rw [e, br_true]
    refine sp_awake h1 (fun H2 h2 => ?_)
    simp only [joinP_eq, br_true, br_false, req_true, look_cons, look_nil, reduceIte, reduceCtorEq, T_val_v, isKT_k, isKT_agg, isKT_lp, isLK_c, locCells_c, nthV_zero, nthV_one, nthV_two, vals_tuple, aggCells_agg, isAgg_agg, getInt_int, getBool_bool, getStr_str, getPtr_ptr, slPtr_slice, slLen_slice, slCap_slice, isK_int, isK_bool, isK_str, isK_ptr, isK_slice, isTuple_tuple, List.length_cons, List.length_nil, Bool.and_true, Bool.true_and, Bool.or_false, Bool.false_or, Bool.and_self, decide_true, decide_false, Bool.not_true, Bool.not_false, beq_dec, ble_dec, Nat.reduceAdd, Nat.reduceEqDiff, Nat.reduceEqDiff]
  · have e1 : ¬ (bs.length : Int) > 64 := by omega
    have e2 : ¬ (bs.length : Int) = 0 := by omega
    have e : (bif true then bif !decide ((bs.length : Int) = 0) then decide ((bs.length : Int) > 64) else true else true) = false := by
      simp only [e1, e2, decide_false, Bool.not_false, cond_true]
    rw [e, br_false, wrap_in (by omega) (by omega)]
    have hpos : 0 < bs.length := by omega
    have h2 := new_cache h1
    refine app_bytes (bs := []) (bytNil h2) ((h2.rdB hr).src c1) (by simp; omega) (fun q3 c3 H3 h3 => ?_)
    rw [List.nil_append] at h3 ⊢
    refine sp_Put (p := ⟨x1, bs, false⟩) h3.swap sortNil (by simp) ⟨by simp only []; omega, by simp only []; omega⟩ (fun _ => h3.bytRd) (fun H4 h4 => ?_)
    have hput : putP [] ⟨x1, bs, false⟩ = ([⟨x1, bs, false⟩], 0) := by
      unfold putP
      rw [if_neg (by simp only []; omega), if_neg (by simp only []; omega)]
      rfl
    have s4 := sort_put sortNil ⟨x1, bs, false⟩
    rw [hput] at h4 s4 ⊢
    have e3 : (0 : Int) < (bs.length : Int) := by omega
    simp only [joinP_eq, br_true, br_false, req_true, look_cons, look_nil, reduceIte, reduceCtorEq, T_val_v, isKT_k, isKT_agg, isKT_lp, isLK_c, locCells_c, nthV_zero, nthV_one, nthV_two, vals_tuple, aggCells_agg, isAgg_agg, getInt_int, getBool_bool, getStr_str, getPtr_ptr, slPtr_slice, slLen_slice, slCap_slice, isK_int, isK_bool, isK_str, isK_ptr, isK_slice, isTuple_tuple, List.length_cons, List.length_nil, Bool.and_true, Bool.true_and, Bool.or_false, Bool.false_or, Bool.and_self, decide_true, decide_false, Bool.not_true, Bool.not_false, beq_dec, ble_dec, Nat.reduceAdd, Nat.reduceEqDiff, Nat.reduceEqDiff]
    have h5 := h4.swap
    obtain ⟨a1, a2, a3⟩ := h5.bytRd.at hpos
    rw [Nat.add_zero] at a2 a3
    simp only [e3, decide_true, a1, a2, a3, isK_int, getInt_int, Bool.and_self, req_true, wrap_u8_nat]
    obtain ⟨w1, w2⟩ := h5.bytSet hpos (UInt8.ofNat (BitVec.ofInt 8 (bs[0].toNat : Int) ^^^ BitVec.ofInt 8 1).toNat)
    rw [Nat.add_zero] at w1 w2
    rw [w1, req_true]
    generalize Am.Heap.store H4 _ _ _ = H6 at w2 ⊢
    have hposP : posP [(⟨x1, bs, false⟩ : Pg)] x1 = 0 := by unfold posP; rw [if_neg (by simp only []; omega)]
    have hhas : hasP [(⟨x1, bs, false⟩ : Pg)] x1 = true := mem_addr.2 (by simp)
    refine sp_Get w2.swap s4 (by simp) ⟨by omega, by omega⟩ (fun hn => by rw [hhas] at hn; cases hn) (fun hp q7 c7 H7 _ _ h7 => ?_)
    simp only [hposP, List.getElem_cons_zero] at h7 ⊢
    obtain ⟨a1, a2, a3⟩ := h7.bytRd.at hpos
    rw [Nat.add_zero] at a2 a3
    simp only [joinP_eq, br_true, br_false, req_true, look_cons, look_nil, reduceIte, reduceCtorEq, T_val_v, isKT_k, isKT_agg, isKT_lp, isLK_c, locCells_c, nthV_zero, nthV_one, nthV_two, vals_tuple, aggCells_agg, isAgg_agg, getInt_int, getBool_bool, getStr_str, getPtr_ptr, slPtr_slice, slLen_slice, slCap_slice, isK_int, isK_bool, isK_str, isK_ptr, isK_slice, isTuple_tuple, List.length_cons, List.length_nil, Bool.and_true, Bool.true_and, Bool.or_false, Bool.false_or, Bool.and_self, decide_true, decide_false, Bool.not_true, Bool.not_false, beq_dec, ble_dec, Nat.reduceAdd, Nat.reduceEqDiff, Nat.reduceEqDiff, f41, oc41, n41_0, n41_1, n41_2, e3, a1, a2, a3, wrap_u8_nat]
    obtain ⟨w3, w4⟩ := h7.bytSet hpos (UInt8.ofNat (BitVec.ofInt 8 (bs[0].toNat : Int) ^^^ BitVec.ofInt 8 2).toNat)
    rw [Nat.add_zero] at w3 w4
    rw [w3, req_true]
    generalize Am.Heap.store H7 _ _ _ = H8 at w4 ⊢
    have w5 := w4.drop
    refine sp_All w5 s4 (by simp) (fun q9 c9 H9 h9 => ?_)
    obtain ⟨rs, hrs, h10⟩ := Sat.pages h9
    have hrd := h10.rwRd
    have hl1 : rs.length = 1 := by have := congrArg List.length hrs; simpa using this
    obtain ⟨r0, rfl⟩ : ∃ r0, rs = [r0] := by
      match rs, hl1 with
      | [r0], _ => exact ⟨_, rfl⟩
    have hp0 : r0.p = ⟨x1, bs, false⟩ := by simpa using hrs
    have hne : (List.map Rp.cs [r0]).flatten ≠ [] := by simp [Rp.cs, c41]
    have hl3 : (List.map Rp.cs [r0]).flatten.length = 3 := rfl
    have i1 := hrd.inb (i := 1) (k := 1) (by rw [hl3]; decide) hne
    have cc1 := hrd.cell (i := 1) (by rw [hl3]; decide)
    have v1 : Am.nthV (List.map Rp.cs [r0]).flatten 1 = .slice r0.q r0.p.data.length r0.c := rfl
    rw [v1, hp0] at cc1
    have hsome := hrd.some hne
    have hd0 : RdB H9 r0.q bs := by
      have := raw_data (h10.up 1) (i := 0) (by simp)
      simp only [List.getElem_cons_zero, hp0] at this
      exact this
    obtain ⟨b1, b2, b3⟩ := hd0.at hpos
    rw [Nat.add_zero] at b2 b3
    have hln : ((([(⟨x1, bs, false⟩ : Pg)].length : Nat)) : Int) = 1 := rfl
    have h01 : (0 : Int) < 1 := by omega
    simp only [joinP_eq, br_true, br_false, req_true, look_cons, look_nil, reduceIte, reduceCtorEq, T_val_v, isKT_k, isKT_agg, isKT_lp, isLK_c, locCells_c, nthV_zero, nthV_one, nthV_two, vals_tuple, aggCells_agg, isAgg_agg, getInt_int, getBool_bool, getStr_str, getPtr_ptr, slPtr_slice, slLen_slice, slCap_slice, isK_int, isK_bool, isK_str, isK_ptr, isK_slice, isTuple_tuple, List.length_cons, List.length_nil, Bool.and_true, Bool.true_and, Bool.or_false, Bool.false_or, Bool.and_self, decide_true, decide_false, Bool.not_true, Bool.not_false, beq_dec, ble_dec, Nat.reduceAdd, Nat.reduceEqDiff, Nat.reduceEqDiff, hln, h01, hsome, i1, cc1, e3, b1, b2, b3, wrap_u8_nat]
    have h11 := h10.up 1
    simp only [nthA, outA, List.map_cons, List.map_nil] at h11
    have h12 := h11.unbigCons
    have h13 : Sat H H9 (BY r0.q r0.c bs :: bigA [] :: Rw 42 3 q9 c9 [r0.cs] :: CacheA H1.next [⟨x1, bs, false⟩] :: BY q3 c3 (bs.set 0 (UInt8.ofNat (BitVec.ofInt 8 (bs[0].toNat : Int) ^^^ BitVec.ofInt 8 1).toNat)) :: []) := by
      have := h12
      unfold Rp.dat at this
      rw [hp0] at this
      exact this
    obtain ⟨w6, w7⟩ := h13.bytSet hpos (UInt8.ofNat (BitVec.ofInt 8 (bs[0].toNat : Int) ^^^ BitVec.ofInt 8 4).toNat)
    rw [Nat.add_zero] at w6 w7
    rw [w6, req_true]
    generalize Am.Heap.store H9 _ _ _ = H14 at w7 ⊢
    have w8 := w7.drop.drop.drop
    refine sp_Get w8 s4 (by simp) ⟨by omega, by omega⟩ (fun hn => by rw [hhas] at hn; cases hn) (fun hp q15 c15 H15 _ _ h15 => ?_)
    simp only [hposP, List.getElem_cons_zero] at h15 ⊢
    have hk1 : ∀ (K : V → Am.Heap → Prop) H, Am.Rec.call (Am.Run env) 28 [V.ptr none, V.int .i64 x1] H K = K (.tuple []) H := fun K H => by rw [eq28]; rfl
    have hk2 : ∀ (K : V → Am.Heap → Prop) H, Am.Rec.call (Am.Run env) 23 [V.ptr none, V.int .i64 x1] H K = K (.tuple [.agg (c41 0 none 0 0 false), .bool false]) H := fun K H => by rw [eq23]; rfl
    have hk3 : ∀ (K : V → Am.Heap → Prop) H a q n c b, Am.Rec.call (Am.Run env) 22 [V.ptr none, V.agg (c41 a q n c b)] H K = K (.int .i64 5) H := fun K H a q n c b => by rw [eq22]; rfl
    have hk4 : ∀ (K : V → Am.Heap → Prop) H, Am.Rec.call (Am.Run env) 29 [V.ptr none] H K = K (.slice none 0 0) H := fun K H => by rw [eq29]; rfl
    have hk5 : ∀ (K : V → Am.Heap → Prop) H, Am.Rec.call (Am.Run env) 24 [V.ptr none] H K = K (.int .i64 0) H := fun K H => by rw [eq24]; rfl
    have hz : IntKind.i64.wrap (((0 : Nat) : Int) + 0) = 0 := by rw [wrap_in (by omega) (by omega)]; rfl
    have hr15 := h15.rdB hr
    simp only [joinP_eq, br_true, br_false, req_true, look_cons, look_nil, reduceIte, reduceCtorEq, T_val_v, isKT_k, isKT_agg, isKT_lp, isLK_c, locCells_c, nthV_zero, nthV_one, nthV_two, vals_tuple, aggCells_agg, isAgg_agg, getInt_int, getBool_bool, getStr_str, getPtr_ptr, slPtr_slice, slLen_slice, slCap_slice, isK_int, isK_bool, isK_str, isK_ptr, isK_slice, isTuple_tuple, List.length_cons, List.length_nil, Bool.and_true, Bool.true_and, Bool.or_false, Bool.false_or, Bool.and_self, decide_true, decide_false, Bool.not_true, Bool.not_false, beq_dec, ble_dec, Nat.reduceAdd, Nat.reduceEqDiff, Nat.reduceEqDiff, f41, oc41, n41_0, n41_1, n41_2, hk1, hk2, hk3, hk4, hk5, h15.bytRd.strOk, h15.bytRd.strAt, hr15.strOk, hr15.strAt, strEq_of, hz]

end
end Go.Proofs.Ytpodpakpgolipaa
