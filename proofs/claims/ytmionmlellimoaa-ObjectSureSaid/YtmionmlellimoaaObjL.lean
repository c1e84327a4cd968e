/- What the laws of layer 14 share: the script; are both alike; the example. -/
import Derived.Test.YtmionmlellimoaaRefAll
import Derived.Test.YtmionmlellimoaaAmIn
namespace Go.Proofs.Ytmionmlellimoaa
open Go.Am
set_option maxRecDepth 100000
set_option linter.unusedSimpArgs false
set_option linter.unusedVariables false
set_option linter.unusedSectionVars false

/-- A step of the script. -/
structure Ac where
  ho : Int
  kd : Int
  lb : Int
  ky : Int
  nw : Int
  ty : Int
  su : Bool
  ow : Bool
  q : Option (Nat × Nat)
  c : Nat
  d : List UInt8

def Ac.cs (a : Ac) : List V := c24 a.ho a.kd a.lb a.ky a.nw a.ty a.su a.ow a.q a.d.length a.c

structure Ac.ok (B : Am.Heap) (a : Ac) : Prop where
  ho : 0 ≤ a.ho ∧ a.ho ≤ 255
  kd : 0 ≤ a.kd ∧ a.kd ≤ 255
  lb : 0 ≤ a.lb ∧ a.lb ≤ 255
  ky : 0 ≤ a.ky ∧ a.ky ≤ 255
  nw : 0 ≤ a.nw ∧ a.nw ≤ 255
  ty : 0 ≤ a.ty ∧ a.ty ≤ 255
  rd : RdB B a.q a.d

def kindT (i : Nat) : Int := [0, 0, 1, 1, 1, 2, 3, 4, 4, 5, 6, 7, 8, 9].getD i 0
def typeT (i : Nat) : Int := [1, 3, 5, 6, 7, 8].getD i 0

theorem kindT_le {i : Nat} (h : i < 14) : 0 ≤ kindT i ∧ kindT i ≤ 9 := by
  have hh : i = 0 ∨ i = 1 ∨ i = 2 ∨ i = 3 ∨ i = 4 ∨ i = 5 ∨ i = 6 ∨ i = 7 ∨ i = 8 ∨ i = 9 ∨ i = 10 ∨ i = 11 ∨ i = 12 ∨ i = 13 := by omega
  rcases hh with h | h | h | h | h | h | h | h | h | h | h | h | h | h <;> subst h <;> decide

/-- The step's data, its command. -/
def Ac.dat (a : Ac) : List UInt8 := if a.d.length ≤ 64 then a.d else []
def Ac.cm (a : Ac) (r : R) (n : Int) : Cm :=
  ⟨kindT (a.kd % 14).toNat, a.lb % n, if a.d.length ≤ 64 then a.q else none, if a.d.length ≤ 64 then a.d.length else 0, if a.d.length ≤ 64 then a.c else 0, a.su,
    if a.ow = true then r.k (a.ho % 4).toNat else a.ky % 4, a.nw % 4, typeT (a.ty % 6).toNat, a.su⟩

theorem Ac.cm_dn (a : Ac) (r : R) (n : Int) : (a.cm r n).dn = a.dat.length := by unfold Ac.cm Ac.dat; split <;> simp [*]
theorem Ac.cm_rd {B : Am.Heap} {L : List Ast} {a : Ac} (ha : a.ok B) (r : R) (n : Int) : Rds B L (a.cm r n).dp a.dat := by
  unfold Ac.cm Ac.dat
  by_cases h : a.d.length ≤ 64
  · simp only [h, if_true]; exact Rds.of ha.rd
  · simp only [h, if_false]; exact Rds.nil _ _ _
theorem Ac.cm_kd (a : Ac) (r : R) (n : Int) (ha : 0 ≤ a.kd ∧ a.kd ≤ 255) : 0 ≤ (a.cm r n).kd ∧ (a.cm r n).kd ≤ 9 := kindT_le (by omega)

section
variable {B : Am.Heap} {L : List Ast} {H : Am.Heap} {K : V → Am.Heap → Prop} {oid mid : Nat} {o : Ob}

theorem sp_cmd (h : Sat B H L) {a : Ac} (ha : a.ok B) (r : R) {n : Int} (hn : 1 ≤ n) (hn2 : n ≤ 1000000) (k : ∀ H', Sat B H' L → K (.tuple [.int .i64 (a.ho % 4), .agg (a.cm r n).cs]) H') :
    Am.Rec.call (Am.Run env) 11 [.agg a.cs, .agg r.cs, .int .i64 n] H K := by
  have h1 := ha.ho
  have h2 := ha.kd
  have h3 := ha.lb
  have h4 := ha.ky
  have h5 := ha.nw
  have h6 := ha.ty
  unfold Ac.cs R.cs
  rw [eq11]
  have t1 : Int.tmod a.kd 14 = a.kd % 14 := Int.tmod_eq_emod_of_nonneg h2.1
  have t2 : Int.tmod a.ty 6 = a.ty % 6 := Int.tmod_eq_emod_of_nonneg h6.1
  have t3 : Int.tmod a.ho 4 = a.ho % 4 := Int.tmod_eq_emod_of_nonneg h1.1
  have t4 : Int.tmod a.ky 4 = a.ky % 4 := Int.tmod_eq_emod_of_nonneg h4.1
  have t5 : Int.tmod a.nw 4 = a.nw % 4 := Int.tmod_eq_emod_of_nonneg h5.1
  have t6 : Int.tmod a.lb n = a.lb % n := Int.tmod_eq_emod_of_nonneg h3.1
  have w1 : IntKind.i64.wrap (a.ho % 4) = a.ho % 4 := by rw [wrap_in (by omega) (by omega)]
  have w2 : IntKind.u32.wrap (a.ky % 4) = a.ky % 4 := IntWalk.u32_in _ (by omega)
  have w3 : IntKind.u32.wrap (a.nw % 4) = a.nw % 4 := IntWalk.u32_in _ (by omega)
  have w4 : IntKind.i64.wrap a.lb = a.lb := by rw [wrap_in (by omega) (by omega)]
  have g1 : 0 ≤ a.kd % 14 := by omega
  have g2 : a.kd % 14 < 14 := by omega
  have g3 : 0 ≤ a.ty % 6 := by omega
  have g4 : a.ty % 6 < 6 := by omega
  have g5 : 0 ≤ a.ho % 4 := by omega
  have g6 : a.ho % 4 < 8 := by omega
  have g7 : ¬ n = 0 := by omega
  have s1 := h.alloc 5 (c100 1 3 5 6 7 8)
  have s2 := s1.alloc 5 (V.int .u8 0 :: V.int .u8 0 :: V.int .u8 1 :: V.int .u8 1 :: V.int .u8 1 :: V.int .u8 2 :: V.int .u8 3 :: V.int .u8 4 :: c100 4 5 6 7 8 9)
  have hg2 := s2.get
  have hg1 := s2.swap.get
  have hsat := s2.drop.drop
  rw [t1, t2, t3, t4, t5, w1, w2, w3, w4, t6]
  generalize hH2 : (H.alloc (.cells 5 (c100 1 3 5 6 7 8) false)).alloc _ = H2 at *
  have e1 : (H.alloc (.cells 5 (c100 1 3 5 6 7 8) false)).2 = (H.alloc (.cells 5 (c100 1 3 5 6 7 8) false)).next := rfl
  have c1 : H2.cell (H.alloc (.cells 5 (c100 1 3 5 6 7 8) false)).next (0 + (a.kd % 14).toNat * 1) = .int .u8 (kindT (a.kd % 14).toNat) := by
    rw [cell_get hg2, Nat.zero_add, Nat.mul_one]
    generalize hi : (a.kd % 14).toNat = i
    have hh : i = 0 ∨ i = 1 ∨ i = 2 ∨ i = 3 ∨ i = 4 ∨ i = 5 ∨ i = 6 ∨ i = 7 ∨ i = 8 ∨ i = 9 ∨ i = 10 ∨ i = 11 ∨ i = 12 ∨ i = 13 := by omega
    rcases hh with h | h | h | h | h | h | h | h | h | h | h | h | h | h <;> rw [h] <;> rfl
  have i1 : H2.inb (H.alloc (.cells 5 (c100 1 3 5 6 7 8) false)).next (0 + (a.kd % 14).toNat * 1) 1 = true := by
    rw [inb_get hg2]
    exact Nat.ble_eq_true_of_le (show 0 + (a.kd % 14).toNat * 1 + 1 ≤ 14 by omega)
  have c2 : H2.cell H.next (0 + (a.ty % 6).toNat * 1) = .int .u8 (typeT (a.ty % 6).toNat) := by
    rw [cell_get hg1, Nat.zero_add, Nat.mul_one]
    generalize hi : (a.ty % 6).toNat = i
    have hh : i = 0 ∨ i = 1 ∨ i = 2 ∨ i = 3 ∨ i = 4 ∨ i = 5 := by omega
    rcases hh with h | h | h | h | h | h <;> rw [h] <;> rfl
  have i2 : H2.inb H.next (0 + (a.ty % 6).toNat * 1) 1 = true := by
    rw [inb_get hg1]
    exact Nat.ble_eq_true_of_le (show 0 + (a.ty % 6).toNat * 1 + 1 ≤ 6 by omega)
  have e4 : (a.ho % 4).toNat < 8 := by omega
  have b1 : Nat.ble (Nat.succ (0 + (a.ho % 4).toNat * 1)) 12 = true := Nat.ble_eq_true_of_le (by omega)
  have n1 : Am.nthV (c37 (r.k 0) (r.k 1) (r.k 2) (r.k 3) (r.k 4) (r.k 5) (r.k 6) (r.k 7) r.ty r.ho r.ge r.la) (0 + (a.ho % 4).toNat * 1) = .int .u32 (r.k (a.ho % 4).toNat) := by
    rw [Nat.zero_add, Nat.mul_one]; exact nth_key r e4
  have hk := k H2 hsat
  unfold Ac.cm at hk
  simp only [g1, g2, g3, g4, g5, g6, g7, e1, i1, c1, i2, c2, b1, n1, decide_true, decide_false, Bool.and_self, Bool.or_false, Bool.not_false, req_true, isK_int, getInt_int, joinP_eq]
  cases how : a.ow
  all_goals
    rw [how] at hk
    simp only [br_false, br_true, look_cons, look_nil, reduceIte, isLK_c, locCells_c, Bool.or_false, req_true, f32, oc32, n32_0, n32_1, n32_2, n32_3, n32_4, n32_5, n32_6, n32_7, getInt_int, getBool_bool, Bool.false_eq_true, if_false, if_true] at hk ⊢
    by_cases h64 : a.d.length ≤ 64
    · have h64' : (a.d.length : Int) ≤ 64 := by omega
      simp only [h64', decide_true, br_true]
      simp only [h64, if_true] at hk
      exact hk
    · have h64' : ¬ (a.d.length : Int) ≤ 64 := by omega
      simp only [h64', decide_false, br_false]
      simp only [h64, if_false] at hk
      exact hk

/-- What is seen of the document's object. -/
theorem refA_facts (h : Sat B H (RefA mid o :: L)) : ∃ q c q2 c2, H.inb mid 0 1 = true ∧ H.cell mid 0 = .slice q o.su.length c ∧ H.inb mid 1 1 = true ∧ H.cell mid 1 = .slice q2 o.ps.length c2 ∧
    H.inb mid 2 12 = true ∧ H.sub mid 2 12 = o.r.cs ∧ Rd H q (o.su.map st).flatten := by
  obtain ⟨l, hp, h1⟩ := Sat.refA h
  obtain ⟨q, c, q2, c2, h2⟩ := Sat.ref h1
  obtain ⟨f1, f2, f3, f4, f5, f6, _⟩ := ref_facts h2.get
  rw [len_perm hp] at f4
  exact ⟨q, c, q2, c2, f1, f2, f3, f4, f5, f6, (h2.up 1).rwRd⟩

theorem lp_same (ho : o.ok) {Kr : Am.St → Prop} {Ke : Nat → Am.St → Prop} : ∀ (m i : Nat) {H : Am.Heap}, i + m = o.su.length → Sat B H (ObjA oid o :: RefA mid o :: L) →
    (∀ H', Sat B H' (ObjA oid o :: RefA mid o :: L) → Ke 0 (St.mk (Am.look []) (Am.look []) H')) →
    Am.Rec.loop (Am.Run env) (Am.loopAt env 18 5) 18 5
      (St.mk (Am.look [(0, T.v (V.ptr (some (oid, 0)))), (1, T.v (V.ptr (some (mid, 0)))), (5, T.v (V.int .i64 (i : Int)))]) (Am.look []) H) Kr Ke
  | 0, i, H, hi, h, k => by
    obtain ⟨q, c, q2, c2, f1, f2, _⟩ := refA_facts (h.up 1)
    rw [lp18_5]
    have e1 : ¬ (i : Int) < (o.su.length : Int) := by omega
    simp only [Option.isSome_some, Option.getD_some, req_true, f1, f2, isK_slice, slLen_slice, Bool.and_self, e1, decide_false, br_false]
    exact k H h
  | m + 1, i, H, hi, h, k => by
    have hlt : i < o.su.length := by omega
    obtain ⟨q, c, q2, c2, f1, f2, _⟩ := refA_facts (h.up 1)
    have e1 : (i : Int) < (o.su.length : Int) := by omega
    have e2 : 0 ≤ (i : Int) := by omega
    have hn2 := ho.n2
    rw [lp18_5]
    simp only [Option.isSome_some, Option.getD_some, req_true, f1, f2, isK_slice, slLen_slice, Bool.and_self, e1, decide_true, br_true]
    refine joinP_gen (fun S => ∃ H5, S = St.mk (Am.look [(53, T.v (V.bool false))]) (Am.look []) H5 ∧ Sat B H5 (ObjA oid o :: RefA mid o :: L)) ?_ ?_
    · rintro S ⟨H5, rfl, h5⟩
      simp only [joinP_eq, br_true, br_false, req_true, look_cons, look_nil, reduceIte, reduceCtorEq, T_val_v, isKT_k, isKT_agg, isKT_lp, isLK_c, locCells_c, nthV_zero, nthV_one, nthV_two, vals_tuple, aggCells_agg, isAgg_agg, getInt_int, getBool_bool, getStr_str, getPtr_ptr, slPtr_slice, slLen_slice, slCap_slice, isK_int, isK_bool, isK_str, isK_ptr, isK_slice, isTuple_tuple, List.length_cons, List.length_nil, Bool.and_true, Bool.true_and, Bool.or_false, Bool.false_or, Bool.and_self, decide_true, decide_false, Bool.not_true, Bool.not_false, beq_dec, ble_dec, Nat.reduceAdd, Nat.reduceEqDiff, Nat.reduceEqDiff]
      rw [wrap_succ' (by omega)]
      exact lp_same ho m (i + 1) (by omega) h5 k
    · intro Q hQ
      have hsu : sureO o i = o.su[i] := by
        unfold sureO
        rw [if_pos ⟨e2, e1⟩, Int.toNat_natCast, getD_at hlt]
      refine sp_oNow h ho i (fun q1 c1 H1 h1 => ?_)
      have hb1 := h1.bytRd
      have h1r := h1.up 2
      simp only [nthA, outA] at h1r
      have h1o := h1.drop
      obtain ⟨l, hp, h1p⟩ := Sat.refA h1r
      obtain ⟨qa, ca, qb, cb, h1q⟩ := Sat.ref h1p
      obtain ⟨j1, j2, _⟩ := ref_facts h1q.get
      obtain ⟨s1, s2, s3⟩ := st_facts (h1q.up 1).rwRd hlt
      have h1z : Sat B H1 (ObjA oid o :: blk mid 50 (mcs qa o.su.length ca qb l.length cb o.r) :: Rw 9 1 qa ca (o.su.map st) :: Rw 96 2 qb cb (l.map wc) :: L) := by
        have h2 : Sat B H1 (BY q1 c1 (nowO o i) :: ObjA oid o :: blk mid 50 (mcs qa o.su.length ca qb l.length cb o.r) :: Rw 9 1 qa ca (o.su.map st) :: Rw 96 2 qb cb (l.map wc) :: L) := h1q.perm (by repeat (first | exact List.Perm.refl _ | refine pm_step 0 rfl ?_ | refine pm_step 1 rfl ?_ | refine pm_step 2 rfl ?_ | refine pm_step 3 rfl ?_ | refine pm_step 4 rfl ?_ | refine pm_step 5 rfl ?_ | refine pm_step 6 rfl ?_ | refine pm_step 7 rfl ?_ | refine pm_step 8 rfl ?_ | refine pm_step 9 rfl ?_))
        exact h2.drop
      have leaf : ∀ {K : V → Am.Heap → Prop}, (∀ q5 c5 H5, RdB H5 q5 o.su[i] → H5.inb mid 0 1 = true → H5.cell mid 0 = .slice qa o.su.length ca → H5.inb (qa.getD (0, 0)).1 ((qa.getD (0, 0)).2 + i * 1) 1 = true →
          H5.cell (qa.getD (0, 0)).1 ((qa.getD (0, 0)).2 + i * 1) = .str (strOf o.su[i]) → Q (St.mk (Am.look [(53, T.v (V.bool false))]) (Am.look []) H5) → K (.slice q5 o.su[i].length c5) H5) →
          Am.Rec.call (Am.Run env) 25 [.ptr (some (oid, 0)), .int .i64 (i : Int)] H1 K := by
        intro K kk
        rw [← hsu] at kk
        refine sp_oSure h1z ho i (fun q5 c5 H5 h5 => ?_)
        have hb5 := h5.bytRd
        have h6 := h5.up 2
        simp only [nthA, outA] at h6
        obtain ⟨k1, k2, _⟩ := ref_facts h6.get
        have h7 := h5.up 3
        simp only [nthA, outA] at h7
        obtain ⟨u1, u2, u3⟩ := st_facts h7.rwRd hlt
        rw [← hsu] at u3
        have h8 : Sat B H5 (blk mid 50 (mcs qa o.su.length ca qb l.length cb o.r) :: Rw 9 1 qa ca (o.su.map st) :: Rw 96 2 qb cb (l.map wc) :: ObjA oid o :: L) := h5.drop.perm (by repeat (first | exact List.Perm.refl _ | refine pm_step 0 rfl ?_ | refine pm_step 1 rfl ?_ | refine pm_step 2 rfl ?_ | refine pm_step 3 rfl ?_ | refine pm_step 4 rfl ?_ | refine pm_step 5 rfl ?_ | refine pm_step 6 rfl ?_ | refine pm_step 7 rfl ?_ | refine pm_step 8 rfl ?_ | refine pm_step 9 rfl ?_))
        exact kk q5 c5 H5 hb5 k1 k2 u2 u3 (hQ _ ⟨H5, rfl, (Sat.unrefA (Sat.unref h8) hp).swap⟩)
      have tail : ∀ {K : V → Am.Heap → Prop}, K (.str (strOf (nowO o i))) H1 → Am.Rec.call (Am.Run env) 35 [.ptr (some (mid, 0)), .int .i64 (i : Int)] H1 K := fun kk => sp_rNow h1r ho e2 e1 kk
      simp only [isK_slice, req_true, slPtr_slice, slLen_slice, hb1.strOk, hb1.strAt]
      refine ⟨tail ?_, tail ?_⟩
      all_goals
        simp only [isK_str, getStr_str, req_true, hb1.strOk, hb1.strAt, strEq_of, decide_true, Bool.not_true, Bool.not_false, br_true, Option.isSome_some, Option.getD_some, j1, j2, isK_slice, slLen_slice, slPtr_slice, Bool.and_self, e1, e2, Int.toNat_natCast, s1, s2, s3]
        refine ⟨leaf (fun q5 c5 H5 hb k1 k2 u2 u3 hq => ?_), leaf (fun q5 c5 H5 hb k1 k2 u2 u3 hq => ?_), leaf (fun q5 c5 H5 hb k1 k2 u2 u3 hq => ?_)⟩
        all_goals
          simp only [isK_slice, isK_str, getStr_str, req_true, slPtr_slice, slLen_slice, hb.strOk, hb.strAt, k1, k2, e1, e2, s1, decide_true, Bool.and_self, Int.toNat_natCast, u2, u3, strEq_of, Bool.not_true]
          exact hq

theorem sp_same (ho : o.ok) (h : Sat B H (ObjA oid o :: RefA mid o :: L)) (k : ∀ H', Sat B H' (ObjA oid o :: RefA mid o :: L) → K (.bool true) H') :
    Am.Rec.call (Am.Run env) 18 [.ptr (some (oid, 0)), .ptr (some (mid, 0))] H K := by
  obtain ⟨q, c, q2, c2, f1, f2, f3, f4, f5, f6, _⟩ := refA_facts (h.up 1)
  rw [eq18]
  simp only [joinP_eq, Option.isSome_some, Option.getD_some, req_true, sp_oResv h, sp_oWaits h, Nat.zero_add, isAgg_agg, aggCells_agg, R.fits_cs, R.open_cs, f3, f4, f5, f6, Bool.and_self, R.eq_self, Bool.not_true, Bool.not_false, br_true, isK_int, isK_slice, getInt_int, slLen_slice, decide_true,
    look_cons, look_nil, reduceIte, isKT_k, isK_bool, Bool.or_false, T_val_v, getBool_bool, br_false]
  have fin : Am.Rec.loop (Am.Run env) (Am.loopAt env 18 5) 18 5
      (St.mk (Am.look [(0, T.v (V.ptr (some (oid, 0)))), (1, T.v (V.ptr (some (mid, 0)))), (5, T.v (V.int .i64 ((0 : Nat) : Int)))]) (Am.look []) H) (fun S' => req (isKT (KT.k .bool) (S'.1 4) || false || false) (K (V.bool (V.getBool (T.val (S'.1 4)))) S'.3)) (fun j S' =>
      br (Nat.beq j 0) (K (V.bool true) S'.3) False) := by
    refine lp_same ho o.su.length 0 (by omega) h (fun H' h' => ?_)
    have e0 : Nat.beq 0 0 = true := rfl
    rw [e0, br_true]
    exact k H' h'
  refine ⟨⟨?_, ?_⟩, ?_, ?_⟩
  all_goals simpa using fin

theorem lit1 (h : Sat B H L) (b : UInt8) : Sat B (H.alloc (.cells 5 [V.int .u8 b.toNat] false)) (BY (some (H.next, 0)) 1 [b] :: L) :=
  h.newBuf (el := 5) (n := 1) (len := 1) (c := 1) (l := [V.int .u8 b.toNat]) (cs := bcells [b]) rfl (bcells_one _) (by omega) (by simp) rfl

def awO1 : Ob := ⟨[[97], [], [], []], [], R.none0⟩
def awO2 : Ob := ⟨[[97], [], [], []], [⟨0, [98], false⟩], R.none0⟩

theorem aw_1 (q : Option (Nat × Nat)) : doO (newO 4) 0 ⟨1, 0, q, 1, 1, true, 0, 0, 0, false⟩ [97] = (awO1, ⟨0, [], R.zero⟩) := rfl
theorem aw_2 (q : Option (Nat × Nat)) : doO awO1 0 ⟨1, 0, q, 1, 1, false, 0, 0, 0, false⟩ [98] = (awO2, ⟨0, [], R.zero⟩) := rfl
theorem aw_3 : doO awO1 1 ⟨0, 0, none, 0, 0, false, 0, 0, 0, false⟩ [] = (awO1, ⟨0, [97], R.zero⟩) := rfl
theorem aw_now : nowO awO2 0 = [98] := rfl

theorem sp_awake (h : Sat B H L) (k : ∀ H', Sat B H' L → K (.bool true) H') : Am.Rec.call (Am.Run env) 9 [] H K := by
  rw [eq9]
  refine sp_oNew h (by omega) (by omega) (fun oid H1 h1 => ?_)
  have o0 : (newO (4 : Int).toNat).ok := ok_new (by decide) (by decide)
  have o1 : awO1.ok := by have := ok_do o0 0 ⟨1, 0, none, 1, 1, true, 0, 0, 0, false⟩ (dat := [97]) rfl; rw [show (4 : Int).toNat = 4 from rfl, aw_1] at this; exact this
  have o2 : awO2.ok := by have := ok_do o1 0 ⟨1, 0, none, 1, 1, false, 0, 0, 0, false⟩ (dat := [98]) rfl; rw [aw_2] at this; exact this
  have h2 := (lit1 h1 97).swap
  have hw : Am.Heap.wr (H1.alloc (.cells 5 [V.int .u8 97] false)) H1.2 0 0 = true := by rw [wr_get (Heap.get_alloc _ _)]; rfl
  simp only [joinP_eq, br_true, br_false, req_true, look_cons, look_nil, reduceIte, reduceCtorEq, T_val_v, isKT_k, isKT_agg, isKT_lp, isLK_c, locCells_c, nthV_zero, nthV_one, nthV_two, vals_tuple, aggCells_agg, isAgg_agg, getInt_int, getBool_bool, getStr_str, getPtr_ptr, slPtr_slice, slLen_slice, slCap_slice, isK_int, isK_bool, isK_str, isK_ptr, isK_slice, isTuple_tuple, List.length_cons, List.length_nil, Bool.and_true, Bool.true_and, Bool.or_false, Bool.false_or, Bool.and_self, decide_true, decide_false, Bool.not_true, Bool.not_false, beq_dec, ble_dec, Nat.reduceAdd, Nat.reduceEqDiff, Nat.reduceEqDiff, Cm.fold', hw]
  refine sp_oDo h2 o0 0 _ [97] rfl Rds.byt (fun q3 c3 H3 h3 => ?_)
  rw [show (4 : Int).toNat = 4 from rfl, aw_1] at h3 ⊢
  have h4 := (lit1 h3.drop 98).swap
  have hw2 : Am.Heap.wr (H3.alloc (.cells 5 [V.int .u8 98] false)) H3.2 0 0 = true := by rw [wr_get (Heap.get_alloc _ _)]; rfl
  simp only [joinP_eq, br_true, br_false, req_true, look_cons, look_nil, reduceIte, reduceCtorEq, T_val_v, isKT_k, isKT_agg, isKT_lp, isLK_c, locCells_c, nthV_zero, nthV_one, nthV_two, vals_tuple, aggCells_agg, isAgg_agg, getInt_int, getBool_bool, getStr_str, getPtr_ptr, slPtr_slice, slLen_slice, slCap_slice, isK_int, isK_bool, isK_str, isK_ptr, isK_slice, isTuple_tuple, List.length_cons, List.length_nil, Bool.and_true, Bool.true_and, Bool.or_false, Bool.false_or, Bool.and_self, decide_true, decide_false, Bool.not_true, Bool.not_false, beq_dec, ble_dec, Nat.reduceAdd, Nat.reduceEqDiff, Nat.reduceEqDiff, Rs.fits, Rs.n0, hw2]
  refine sp_oDo h4 o1 0 _ [98] rfl Rds.byt (fun q5 c5 H5 h5 => ?_)
  rw [aw_2] at h5 ⊢
  simp only [joinP_eq, br_true, br_false, req_true, look_cons, look_nil, reduceIte, reduceCtorEq, T_val_v, isKT_k, isKT_agg, isKT_lp, isLK_c, locCells_c, nthV_zero, nthV_one, nthV_two, vals_tuple, aggCells_agg, isAgg_agg, getInt_int, getBool_bool, getStr_str, getPtr_ptr, slPtr_slice, slLen_slice, slCap_slice, isK_int, isK_bool, isK_str, isK_ptr, isK_slice, isTuple_tuple, List.length_cons, List.length_nil, Bool.and_true, Bool.true_and, Bool.or_false, Bool.false_or, Bool.and_self, decide_true, decide_false, Bool.not_true, Bool.not_false, beq_dec, ble_dec, Nat.reduceAdd, Nat.reduceEqDiff, Nat.reduceEqDiff, Rs.fits, Rs.n0]
  refine sp_oNow h5.drop o2 0 (fun q6 c6 H6 h6 => ?_)
  rw [aw_now] at h6 ⊢
  have hb6 := h6.bytRd
  simp only [isK_slice, req_true, slPtr_slice, slLen_slice, hb6.strOk, hb6.strAt, strEq_of]
  refine sp_oFall h6.drop false (fun H7 h7 => ?_)
  simp only [decide_true, br_true]
  have e7 : fallO awO2 false = awO1 := rfl
  rw [e7] at h7
  refine sp_oDo h7 o1 1 _ [] rfl (Rds.nil _ _ _) (fun q8 c8 H8 h8 => ?_)
  rw [aw_3] at h8 ⊢
  have hb8 := h8.bytRd
  simp only [isAgg_agg, aggCells_agg, Rs.fits, Rs.n1, Bool.and_self, req_true, slPtr_slice, slLen_slice, hb8.strOk, hb8.strAt, strEq_of, decide_true]
  exact k H8 h8.drop.drop.drop.drop

end
end Go.Proofs.Ytmionmlellimoaa
