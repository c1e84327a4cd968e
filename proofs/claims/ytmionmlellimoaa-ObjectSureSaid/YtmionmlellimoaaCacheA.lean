/- The cache: where an address stands; its pages in memory. -/
import Derived.Test.YtmionmlellimoaaSlc2
import Derived.Test.YtmionmlellimoaaByt2
namespace Go.Proofs.Ytmionmlellimoaa
open Go.Am
set_option maxRecDepth 100000
set_option linter.unusedSimpArgs false
set_option linter.unusedVariables false
set_option linter.unusedSectionVars false

/-- A page. -/
structure Pg where
  addr : Int
  data : List UInt8
  hole : Bool

/-- A page in memory. -/
structure Rp where
  p : Pg
  q : Option (Nat × Nat)
  c : Nat

def Rp.cs (r : Rp) : List V := c72 r.p.addr r.q r.p.data.length r.c r.p.hole
def Rp.dat (r : Rp) : Ast := BY r.q r.c r.p.data

theorem Rp.fits (r : Rp) : Am.fits k72 r.cs = true := rfl

theorem raw_fit (rs : List Rp) : PF (rs.map Rp.cs) := by
  intro c hc
  obtain ⟨r, _, rfl⟩ := List.mem_map.1 hc
  exact r.fits

def cmpA (rs : List Rp) (a : Int) (k : Nat) : Int := match rs[k]? with
  | some r => IntKind.i64.wrap (r.p.addr - a)
  | none => 0

theorem cmpA_eq {rs : List Rp} {a : Int} {k : Nat} (h : k < rs.length) : cmpA rs a k = IntKind.i64.wrap (rs[k].p.addr - a) := by
  unfold cmpA
  rw [List.getElem?_eq_getElem h]

/-- Where a search may end. -/
def EndAt (rs : List Rp) (a : Int) (i : Nat) : Prop := i ≤ rs.length ∧ (i = 0 ∨ cmpA rs a (i - 1) < 0) ∧ (i = rs.length ∨ ¬ cmpA rs a i < 0)

section
variable {B : Am.Heap} {L : List Ast} {H : Am.Heap} {K : V → Am.Heap → Prop} {cap : Nat} {q : Option (Nat × Nat)} {rs : List Rp} {a : Int}

theorem callV_cmp (args : List V) (H : Am.Heap) (K : V → Am.Heap → Prop) : Am.callV env (Am.Run env) (.func 65 []) args H K = Am.Rec.call (Am.Run env) 65 (args ++ []) H K := by kernel_rfl

theorem read_page (hr : Rd H q (rs.map Rp.cs).flatten) {i : Nat} (hi : i < rs.length) :
    q.isSome = true ∧ H.inb (q.getD (0, 0)).1 ((q.getD (0, 0)).2 + i * 3) 3 = true ∧ H.sub (q.getD (0, 0)).1 ((q.getD (0, 0)).2 + i * 3) 3 = rs[i].cs := by
  have := rd_at hr (raw_fit rs).uni (by omega) (i := i) (by simpa using hi)
  simpa using this

theorem lp_Search (hr : Rd H q (rs.map Rp.cs).flatten) (hb : rs.length ≤ 1000) {Kr : Am.St → Prop} {Ke : Nat → Am.St → Prop}
    (k : ∀ i, EndAt rs a i → Ke 0 (St.mk (Am.look [(0, T.v (V.slice q rs.length cap)), (1, T.v (V.int .i64 a)), (2, T.v (V.func 65 [])), (8, T.v (V.int .i64 (rs.length : Int))), (9, T.v (V.int .i64 (i : Int)))]) (Am.look []) H)) :
    ∀ (n i j : Nat), j - i ≤ n → i ≤ j → j ≤ rs.length → (i = 0 ∨ cmpA rs a (i - 1) < 0) → (j = rs.length ∨ ¬ cmpA rs a j < 0) →
    Am.Rec.loop (Am.Run env) (Am.loopAt env 64 3) 64 3
      (St.mk (Am.look [(0, T.v (V.slice q rs.length cap)), (1, T.v (V.int .i64 a)), (2, T.v (V.func 65 [])), (8, T.v (V.int .i64 (rs.length : Int))), (9, T.v (V.int .i64 (i : Int))), (10, T.v (V.int .i64 (j : Int)))]) (Am.look []) H) Kr Ke := by
  intro n
  induction n with
  | zero =>
    intro i j hn hij hj h1 h2
    obtain rfl : i = j := by omega
    rw [lp64_3]
    have e1 : ¬ (i : Int) < (i : Int) := by omega
    rw [decide_eq_false e1, br_false]
    exact k i ⟨hj, h1, h2⟩
  | succ n ih =>
    intro i j hn hij hj h1 h2
    rw [lp64_3]
    by_cases hlt : i < j
    · have e1 : (i : Int) < (j : Int) := by omega
      have em : IntKind.i64.wrap (Int.fdiv (IntKind.u64.wrap (IntKind.i64.wrap ((i : Int) + (j : Int)))) 2) = (((i + j) / 2 : Nat) : Int) := by
        rw [wrap_in (x := (i : Int) + (j : Int)) (by omega) (by omega), IntWalk.u64_in _ (by omega), Int.fdiv_eq_ediv_of_nonneg _ (by omega), wrap_in (by omega) (by omega)]
        omega
      generalize hm : (i + j) / 2 = m at em
      have hm1 : i ≤ m := by omega
      have hm2 : m < j := by omega
      obtain ⟨r1, r2, r3⟩ := read_page hr (i := m) (by omega)
      have e2 : 0 ≤ (m : Int) := by omega
      have e3 : (m : Int) < (rs.length : Int) := by omega
      have ho : o72 rs[m].cs = rs[m].cs := rfl
      simp only [e1, em, e2, e3, Int.toNat_natCast, decide_true, br_true, r1, r2, r3, Bool.and_self, req_true, Rp.fits, ho, callV_cmp, List.append_nil]
      unfold Rp.cs
      rw [eq65]
      have hc := cmpA_eq (a := a) (show m < rs.length by omega)
      simp only [isK_int, getInt_int, req_true, ← hc]
      rw [wrap_in (x := (m : Int) + 1) (by omega) (by omega)]
      by_cases hneg : cmpA rs a m < 0
      · rw [decide_eq_true hneg, br_true]
        have := ih (m + 1) j (by omega) (by omega) hj (.inr (by simpa using hneg)) h2
        simpa using this
      · rw [decide_eq_false hneg, br_false]
        exact ih i m (by omega) hm1 (by omega) h1 (.inr hneg)
    · obtain rfl : i = j := by omega
      have e1 : ¬ (i : Int) < (i : Int) := by omega
      rw [decide_eq_false e1, br_false]
      exact k i ⟨hj, h1, h2⟩

def foundA (rs : List Rp) (a : Int) (i : Nat) : Bool := decide (i < rs.length) && decide (cmpA rs a i = 0)

theorem sp_Search (hr : Rd H q (rs.map Rp.cs).flatten) (hb : rs.length ≤ 1000) (k : ∀ i, EndAt rs a i → K (.tuple [.int .i64 (i : Int), .bool (foundA rs a i)]) H) :
    Am.Rec.call (Am.Run env) 64 [.slice q rs.length cap, .int .i64 a, .func 65 []] H K := by
  rw [eq64]
  refine lp_Search hr hb (fun i hi => ?_) rs.length 0 rs.length (by omega) (by omega) (Nat.le_refl _) (.inl rfl) (.inl rfl)
  have hk := k i hi
  unfold foundA at hk
  have ek : V.isK Kind.func (V.func 65 []) = true := rfl
  simp only [joinP_eq, br_true, br_false, req_true, look_cons, look_nil, reduceIte, reduceCtorEq, T_val_v, isKT_k, isKT_agg, isKT_lp, isLK_c, locCells_c, nthV_zero, nthV_one, nthV_two, vals_tuple, aggCells_agg, isAgg_agg, getInt_int, getBool_bool, getStr_str, getPtr_ptr, slPtr_slice, slLen_slice, slCap_slice, isK_int, isK_bool, isK_str, isK_ptr, isK_slice, isTuple_tuple, List.length_cons, List.length_nil, Bool.and_true, Bool.true_and, Bool.or_false, Bool.false_or, Bool.and_self, decide_true, decide_false, Bool.not_true, Bool.not_false, beq_dec, ble_dec, Nat.reduceAdd, Nat.reduceEqDiff, Nat.reduceEqDiff, ek]
  by_cases hlt : i < rs.length
  · have e1 : (i : Int) < (rs.length : Int) := by omega
    obtain ⟨r1, r2, r3⟩ := read_page hr (i := i) (by omega)
    have e2 : 0 ≤ (i : Int) := by omega
    have ho : o72 rs[i].cs = rs[i].cs := rfl
    simp only [e1, e2, Int.toNat_natCast, decide_true, br_true, r1, r2, r3, Bool.and_self, req_true, Rp.fits, ho, callV_cmp, List.append_nil]
    unfold Rp.cs
    rw [eq65]
    have hc := cmpA_eq (a := a) (show i < rs.length by omega)
    simp only [isK_int, getInt_int, req_true, ← hc]
    rw [decide_eq_true hlt, Bool.true_and] at hk
    exact hk
  · have e1 : ¬ (i : Int) < (rs.length : Int) := by omega
    rw [decide_eq_false hlt, Bool.false_and] at hk
    simp only [e1, decide_false, br_false]
    exact hk

theorem sp_at {id : Nat} (hg : H.get id = some (.cells 67 [.slice q rs.length cap] false)) (hr : Rd H q (rs.map Rp.cs).flatten) (hb : rs.length ≤ 1000)
    (k : ∀ i, EndAt rs a i → K (.tuple [.int .i64 (i : Int), .bool (foundA rs a i)]) H) :
    Am.Rec.call (Am.Run env) 51 [.ptr (some (id, 0)), .int .i64 a] H K := by
  rw [eq51]
  have e1 : Nat.ble (0 + 1) [V.slice q rs.length cap].length = true := rfl
  simp only [Option.isSome_some, Option.getD_some, req_true, inb_get hg, cell_get hg, e1, nthV_zero, isK_slice, slPtr_slice, slLen_slice, slCap_slice, Bool.and_self]
  refine sp_Search hr hb (fun i hi => ?_)
  simp only [joinP_eq, br_true, br_false, req_true, look_cons, look_nil, reduceIte, reduceCtorEq, T_val_v, isKT_k, isKT_agg, isKT_lp, isLK_c, locCells_c, nthV_zero, nthV_one, nthV_two, vals_tuple, aggCells_agg, isAgg_agg, getInt_int, getBool_bool, getStr_str, getPtr_ptr, slPtr_slice, slLen_slice, slCap_slice, isK_int, isK_bool, isK_str, isK_ptr, isK_slice, isTuple_tuple, List.length_cons, List.length_nil, Bool.and_true, Bool.true_and, Bool.or_false, Bool.false_or, Bool.and_self, decide_true, decide_false, Bool.not_true, Bool.not_false, beq_dec, ble_dec, Nat.reduceAdd, Nat.reduceEqDiff, Nat.reduceEqDiff]
  exact k i hi

/-- A row of pages, each with its data. -/
def PagesA (q : Option (Nat × Nat)) (cap : Nat) (ps : List Pg) : Ast :=
  exA fun rs : List Rp => star (lft (rs.map Rp.p = ps)) (star (Rw 73 3 q cap (rs.map Rp.cs)) (bigA (rs.map Rp.dat)))

theorem Sat.pages {ps : List Pg} (h : Sat B H (PagesA q cap ps :: L)) : ∃ rs : List Rp, rs.map Rp.p = ps ∧ Sat B H (Rw 73 3 q cap (rs.map Rp.cs) :: bigA (rs.map Rp.dat) :: L) := by
  obtain ⟨rs, h⟩ := h.ex1
  obtain ⟨h1, h⟩ := h.star.lft
  exact ⟨rs, h1, h.star⟩

theorem Sat.unpages (h : Sat B H (Rw 73 3 q cap (rs.map Rp.cs) :: bigA (rs.map Rp.dat) :: L)) : Sat B H (PagesA q cap (rs.map Rp.p) :: L) :=
  Sat.intro (A := fun rs' : List Rp => star (lft (rs'.map Rp.p = rs.map Rp.p)) (star (Rw 73 3 q cap (rs'.map Rp.cs)) (bigA (rs'.map Rp.dat)))) (h.unstar.pure rfl).unstar

/-- A cache. -/
def CacheA (id : Nat) (ps : List Pg) : Ast := exA fun q => exA fun cap => star (blk id 67 [.slice q ps.length cap]) (PagesA q cap ps)

theorem Sat.cache {id : Nat} {ps : List Pg} (h : Sat B H (CacheA id ps :: L)) : ∃ (rs : List Rp) (q : Option (Nat × Nat)) (cap : Nat), rs.map Rp.p = ps ∧
    Sat B H (blk id 67 [.slice q rs.length cap] :: Rw 73 3 q cap (rs.map Rp.cs) :: bigA (rs.map Rp.dat) :: L) := by
  obtain ⟨q, h⟩ := h.ex1
  obtain ⟨cap, h⟩ := h.ex1
  have h := h.star.swap
  obtain ⟨rs, rfl, h⟩ := Sat.pages h
  have h2 := h.up 2
  simp only [nthA, outA, List.length_map] at h2
  exact ⟨rs, q, cap, rfl, h2⟩

theorem Sat.uncache {id : Nat} (h : Sat B H (blk id 67 [.slice q rs.length cap] :: Rw 73 3 q cap (rs.map Rp.cs) :: bigA (rs.map Rp.dat) :: L)) : Sat B H (CacheA id (rs.map Rp.p) :: L) := by
  have h2 : Sat B H (Rw 73 3 q cap (rs.map Rp.cs) :: bigA (rs.map Rp.dat) :: blk id 67 [.slice q rs.length cap] :: L) := by
    exact (h.up 1).perm (by simp only [nthA, outA]; exact (List.Perm.refl _).cons _ |>.trans ((List.Perm.swap ..).cons _))
  have h3 := (Sat.unpages h2).swap
  have h4 := h3.unstar
  refine Sat.intro (A := fun q => exA fun cap => star (blk id 67 [.slice q (rs.map Rp.p).length cap]) (PagesA q cap (rs.map Rp.p))) (x := q) ?_
  refine Sat.intro (A := fun cap => star (blk id 67 [.slice q (rs.map Rp.p).length cap]) (PagesA q cap (rs.map Rp.p))) (x := cap) ?_
  simpa using h4

end
end Go.Proofs.Ytmionmlellimoaa
