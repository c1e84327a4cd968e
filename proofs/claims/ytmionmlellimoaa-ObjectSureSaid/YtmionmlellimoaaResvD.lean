/- The document's answer to a command is the code's, at any time. -/
import Derived.Test.YtmionmlellimoaaResvV
namespace Go.Proofs.Ytmionmlellimoaa
open Go.Am
set_option maxRecDepth 100000
set_option linter.unusedSimpArgs false
set_option linter.unusedVariables false

section
variable (H : Am.Heap) (K : V → Am.Heap → Prop)

def vicN (r : R) (h new : Int) : Nat → Nat
  | 0 => 0
  | i + 1 => if vic r h new i = true then vicN r h new i + 1 else vicN r h new i

theorem vicN_le (r : R) (h new : Int) : ∀ n, vicN r h new n ≤ n
  | 0 => Nat.le_refl _
  | n + 1 => by have := vicN_le r h new n; unfold vicN; split <;> omega

theorem vicN_zero (r : R) (h new : Int) : ∀ n, vicN r h new n = 0 ↔ vicB r h new n = false
  | 0 => by simp [vicN, vicB]
  | n + 1 => by
    have := vicN_zero r h new n
    unfold vicN vicB
    by_cases hv : vic r h new n = true
    · simp [hv]
    · simp [hv, this]

def stD (r : R) (h : Int) (c : Cm) (ho : Bool) (v : Int) (k : Nat → Int) (i : Int) : St :=
  St.mk (Am.look [(1, T.v (V.int .i64 h)), (3, T.lp 3 0), (5, T.lp 5 0), (6, T.lp 6 0), (8, T.lp 8 0), (10, T.v (V.bool ho)), (11, T.v (V.int .i64 v)), (12, T.v (V.int .i64 i))])
    (Am.look [(3, Loc.cells 38 r.cs), (5, Loc.cells 33 c.cs), (6, Loc.cells 38 (c37 0 0 0 0 0 0 0 0 0 0 0 false)),
      (8, Loc.cells 38 (R.cs ⟨k, r.ty, r.ho, r.ge, r.la⟩))]) H

theorem lp_rDo (r : R) (h : Int) (c : Cm) (ho : Bool) (v : Nat) (k : Nat → Int) (i : Nat) (hi : i < 8) (hv : v ≤ 8) (Kr : St → Prop) (Ke : Nat → St → Prop) :
    Am.Rec.loop (Am.Run env) (Am.loopAt env 37 53) 37 53 (stD H r h c ho v k i) Kr Ke =
    Am.Rec.loop (Am.Run env) (Am.loopAt env 37 53) 37 53
      (stD H r h c (ho || (vic r h c.nw i && (!decide (r.ty = 0) && decide (r.ho = i)))) (if vic r h c.nw i = true then v + 1 else v : Nat) (if vic r h c.nw i = true then upd k i 0 else k) (i + 1 : Nat)) Kr Ke := by
  have e1 : decide ((i : Int) < 8) = true := by simp; omega
  have e2 : decide (0 ≤ (i : Int)) = true := by simp
  have e3 : 0 + Int.toNat (i : Int) * 1 = i := by simp
  have e6 : Nat.ble (Nat.succ i) 12 = true := by simp; omega
  have hst := set_key_ok 0 r.ty r.ho r.la hi
  have hsk := set_key ⟨k, r.ty, r.ho, r.ge, r.la⟩ hi 0 r.ty r.ho r.ge r.la
  conv => lhs; unfold stD R.cs Cm.cs
  rw [lp37_53, wrap_succ (by omega), wrap_succ (by omega)]
  simp only [e3, hst, hsk]
  simp only [e1, e2, e6, nth_key r hi, isK_int, getInt_int, br_true, req_true, Bool.and_self]
  unfold vic
  generalize decide (r.k i = 0) = b1
  generalize decide ((i : Int) = h) = b2
  generalize decide (c.nw = 0) = b3
  generalize decide (r.k i = c.nw) = b4
  generalize decide (r.ho = (i : Int)) = b5
  generalize decide (r.ty = 0) = b6
  cases b1
  · cases b2
    · cases b3 <;> cases b4 <;> cases ho <;> cases b5 <;> cases b6 <;> rfl
    · cases b3 <;> cases ho <;> rfl
  · cases b2 <;> cases b3 <;> cases ho <;> rfl

theorem lp_rDo_end (r : R) (h : Int) (c : Cm) (ho : Bool) (v : Int) (k : Nat → Int) (Kr : St → Prop) (Ke : Nat → St → Prop) :
    Am.Rec.loop (Am.Run env) (Am.loopAt env 37 53) 37 53 (stD H r h c ho v k (8 : Nat)) Kr Ke =
    Ke 1 (St.mk (Am.look [(1, T.v (V.int .i64 h)), (3, T.lp 3 0), (5, T.lp 5 0), (6, T.lp 6 0), (8, T.lp 8 0), (10, T.v (V.bool ho)), (11, T.v (V.int .i64 v))])
      (Am.look [(3, Loc.cells 38 r.cs), (5, Loc.cells 33 c.cs), (6, Loc.cells 38 (c37 0 0 0 0 0 0 0 0 0 0 0 false)),
      (8, Loc.cells 38 (R.cs ⟨k, r.ty, r.ho, r.ge, r.la⟩))]) H) := by
  conv => lhs; unfold stD R.cs Cm.cs
  rw [lp37_53]
  rfl

def hoD (r : R) (h new : Int) (b : Bool) : Nat → Bool
  | 0 => b
  | i + 1 => hoD r h new b i || (vic r h new i && (!decide (r.ty = 0) && decide (r.ho = i)))

theorem hoD_eq {r : R} (hr : Inv r) (h new : Int) (b : Bool) : ∀ n, hoD r h new b n = hoB r h new b n
  | 0 => rfl
  | n + 1 => by
    unfold hoD hoB
    rw [hoD_eq hr h new b n]
    by_cases ht : r.ty = 0
    · have h1 := hr.none ht
      have h2 : decide (r.ho = (n : Int)) = false := by rw [h1]; simp
      rw [h2]
      simp
    · simp [ht]

theorem run_rDo (r : R) (h : Int) (c : Cm) (b : Bool) (Kr : St → Prop) (Ke : Nat → St → Prop) :
    Am.Rec.loop (Am.Run env) (Am.loopAt env 37 53) 37 53 (stD H r h c b 0 r.k 0) Kr Ke =
    Am.Rec.loop (Am.Run env) (Am.loopAt env 37 53) 37 53 (stD H r h c (hoD r h c.nw b 8) (vicN r h c.nw 8 : Nat) (kV r h c.nw 8) (8 : Nat)) Kr Ke := by
  have step (i : Nat) (hi : i < 8) : Am.Rec.loop (Am.Run env) (Am.loopAt env 37 53) 37 53 (stD H r h c (hoD r h c.nw b i) (vicN r h c.nw i : Nat) (kV r h c.nw i) i) Kr Ke =
      Am.Rec.loop (Am.Run env) (Am.loopAt env 37 53) 37 53 (stD H r h c (hoD r h c.nw b (i + 1)) (vicN r h c.nw (i + 1) : Nat) (kV r h c.nw (i + 1)) (i + 1 : Nat)) Kr Ke :=
    lp_rDo H r h c _ _ _ i hi (by have := vicN_le r h c.nw i; omega) Kr Ke
  exact (step 0 (by omega)).trans ((step 1 (by omega)).trans ((step 2 (by omega)).trans ((step 3 (by omega)).trans ((step 4 (by omega)).trans ((step 5 (by omega)).trans ((step 6 (by omega)).trans (step 7 (by omega))))))))

def stC (r : R) (k : Nat → Int) (i : Int) : St :=
  St.mk (Am.look [(6, T.lp 6 0), (8, T.lp 8 0), (9, T.v (V.int .i64 i))])
    (Am.look [(6, Loc.cells 38 (c37 0 0 0 0 0 0 0 0 0 0 0 false)), (8, Loc.cells 38 (R.cs ⟨k, r.ty, r.ho, r.ge, r.la⟩))]) H

theorem lp_clear (r : R) (k : Nat → Int) (i : Nat) (hi : i < 8) (Kr : St → Prop) (Ke : Nat → St → Prop) :
    Am.Rec.loop (Am.Run env) (Am.loopAt env 37 40) 37 40 (stC H r k i) Kr Ke =
    Am.Rec.loop (Am.Run env) (Am.loopAt env 37 40) 37 40 (stC H r (upd k i 0) (i + 1 : Nat)) Kr Ke := by
  have e1 : decide ((i : Int) < 8) = true := by simp; omega
  have e2 : decide (0 ≤ (i : Int)) = true := by simp
  have e3 : 0 + Int.toNat (i : Int) * 1 = i := by simp
  have hst := set_key_ok 0 r.ty r.ho r.la hi
  have hsk := set_key ⟨k, r.ty, r.ho, r.ge, r.la⟩ hi 0 r.ty r.ho r.ge r.la
  conv => lhs; unfold stC R.cs
  rw [lp37_40, wrap_succ (by omega)]
  simp only [e1, e2, e3, hst, hsk, br_true, req_true, Bool.and_self]
  rfl

theorem lp_clear_end (r : R) (k : Nat → Int) (Kr : St → Prop) (Ke : Nat → St → Prop) :
    Am.Rec.loop (Am.Run env) (Am.loopAt env 37 40) 37 40 (stC H r k (8 : Nat)) Kr Ke =
    Ke 3 (St.mk (Am.look [(6, T.lp 6 0), (8, T.lp 8 0)])
      (Am.look [(6, Loc.cells 38 (c37 0 0 0 0 0 0 0 0 0 0 0 false)), (8, Loc.cells 38 (R.cs ⟨k, r.ty, r.ho, r.ge, r.la⟩))]) H) := by
  conv => lhs; unfold stC R.cs
  rw [lp37_40]
  rfl

theorem run_clear (r : R) (Kr : St → Prop) (Ke : Nat → St → Prop) :
    Am.Rec.loop (Am.Run env) (Am.loopAt env 37 40) 37 40 (stC H r r.k 0) Kr Ke =
    Ke 3 (St.mk (Am.look [(6, T.lp 6 0), (8, T.lp 8 0)])
      (Am.look [(6, Loc.cells 38 (c37 0 0 0 0 0 0 0 0 0 0 0 false)), (8, Loc.cells 38 (R.cs ⟨fun _ => 0, r.ty, r.ho, r.ge, r.la⟩))]) H) := by
  have e0 : stC H r r.k 0 = stC H r r.k (0 : Nat) := rfl
  rw [e0, lp_clear H r _ 0 (by omega), lp_clear H r _ 1 (by omega), lp_clear H r _ 2 (by omega), lp_clear H r _ 3 (by omega), lp_clear H r _ 4 (by omega), lp_clear H r _ 5 (by omega), lp_clear H r _ 6 (by omega), lp_clear H r _ 7 (by omega), lp_clear_end]
  rfl

theorem holdsD_eq {r : R} (hr : Inv r) (h : Int) : holdsD r h = holds r h := by
  unfold holdsD holds
  by_cases hi : inR h = true
  · have h0 : 0 ≤ h := by unfold inR at hi; simp at hi; exact hi.1
    cases ha : all8 r.ty
    · simp
    · have := hr.all ha
      have hne : ¬ r.ho = h := by omega
      simp [hne]
  · simp [hi]

theorem permitsD_eq {r : R} (hr : Inv r) (h : Int) (w : Bool) : permitsD r h w = permits r h w := by
  unfold permitsD permits
  rw [holdsD_eq hr]
  have := hr.ty
  rw [right_iff] at this
  grind

theorem sp_rDo (r : R) (hr : Inv r) (h : Int) (c : Cm) : Am.Rec.call (Am.Run env) 37 [.agg r.cs, .int .i64 h, .agg c.cs] H K =
    K (.tuple [.agg (doR r h c).1.cs, .int .i64 (doR r h c).2]) H := by
  obtain ⟨rk, rty, rho, rge, rla⟩ := r
  obtain ⟨kd, lba, dp, dn, dc, su, ky, nw, cty, la⟩ := c
  conv => lhs; simp only [R.cs, Cm.cs]
  rw [eq37]
  by_cases hrange : 0 ≤ h ∧ h < 8
  · obtain ⟨h0, h8⟩ := hrange
    have e4 : h.toNat < 8 := by omega
    have e6 : Nat.succ h.toNat ≤ 12 := by omega
    have hst := set_key_ok nw rty rho la e4
    have hsk := set_key ⟨rk, rty, rho, rge, rla⟩ e4 nw rty rho (IntKind.u32.wrap (rge + 1)) la
    have hs (b : Bool) : stD H ⟨rk, rty, rho, rge, rla⟩ h ⟨kd, lba, dp, dn, dc, su, ky, nw, cty, la⟩ b 0 rk 0 = stD H ⟨rk, rty, rho, rge, rla⟩ h ⟨kd, lba, dp, dn, dc, su, ky, nw, cty, la⟩ b 0 rk 0 := rfl
    conv at hs => ext b; lhs; unfold stD
    have hs2 : stC H ⟨rk, rty, rho, rge, rla⟩ rk 0 = stC H ⟨rk, rty, rho, rge, rla⟩ rk 0 := rfl
    conv at hs2 => lhs; unfold stC
    have hc (k : Nat → Int) (ty ho g ge : Int) (la : Bool) : c37 (V.getInt (nthV (R.cs ⟨k, ty, ho, g, la⟩) 0)) (V.getInt (nthV (R.cs ⟨k, ty, ho, g, la⟩) 1)) (V.getInt (nthV (R.cs ⟨k, ty, ho, g, la⟩) 2))
        (V.getInt (nthV (R.cs ⟨k, ty, ho, g, la⟩) 3)) (V.getInt (nthV (R.cs ⟨k, ty, ho, g, la⟩) 4)) (V.getInt (nthV (R.cs ⟨k, ty, ho, g, la⟩) 5)) (V.getInt (nthV (R.cs ⟨k, ty, ho, g, la⟩) 6))
        (V.getInt (nthV (R.cs ⟨k, ty, ho, g, la⟩) 7)) (V.getInt (nthV (R.cs ⟨k, ty, ho, g, la⟩) 8)) (V.getInt (nthV (R.cs ⟨k, ty, ho, g, la⟩) 9)) ge (V.getBool (nthV (R.cs ⟨k, ty, ho, g, la⟩) 11)) =
        R.cs ⟨k, ty, ho, ge, la⟩ := rfl
    have hg (k : Nat → Int) (ty ho g : Int) (la : Bool) : V.getInt (nthV (R.cs ⟨k, ty, ho, g, la⟩) 10) = g := rfl
    have ht : V.getInt (nthV (Cm.cs ⟨kd, lba, dp, dn, dc, su, ky, nw, cty, la⟩) 6) = cty := rfl
    have hz : Am.fits k37 (c37 0 0 0 0 0 0 0 0 0 0 0 false) = true := rfl
    have hm (a b cc : Bool) : mergeR a (mergeR b (mergeR cc true true) (mergeR false true true)) true = true := by cases a <;> cases b <;> cases cc <;> rfl
    have hr1 (b : Bool) (Kr : St → Prop) (Ke : Nat → St → Prop) := run_rDo H ⟨rk, rty, rho, rge, rla⟩ h ⟨kd, lba, dp, dn, dc, su, ky, nw, cty, la⟩ b Kr Ke
    dsimp only at hr1
    have hr2 (Kr : St → Prop) (Ke : Nat → St → Prop) := run_clear H ⟨rk, rty, rho, rge, rla⟩ Kr Ke
    dsimp only at hr2
    have hk0 (a : Int) : (a = 0) = (a = 0) := rfl
    have hnk := nth_key ⟨rk, rty, rho, rge, rla⟩ e4
    simp only [idx, joinP_eq] at hst hsk hnk ⊢
    simp only [hst, hsk, hnk]
    simp only [joinP_eq, br_true, br_false, req_true, look_cons, look_nil, reduceIte, reduceCtorEq, T_val_v, isKT_k, isKT_agg, isKT_lp, isLK_c, locCells_c, nthV_zero, nthV_one, nthV_two, vals_tuple, aggCells_agg, isAgg_agg, getInt_int, getBool_bool, getStr_str, getPtr_ptr, slPtr_slice, slLen_slice, slCap_slice, isK_int, isK_bool, isK_str, isK_ptr, isK_slice, isTuple_tuple, List.length_cons, List.length_nil, Bool.and_true, Bool.true_and, Bool.or_false, Bool.false_or, Bool.and_self, decide_true, decide_false, Bool.not_true, Bool.not_false, beq_dec, ble_dec, Nat.reduceAdd, Nat.reduceEqDiff, Nat.reduceEqDiff, R.fold', Cm.fold', sp_rRight, sp_rHolds, sp_rtake, sp_rfree, sp_some, R.fits_cs, Cm.fits_cs, R.open_cs, h0, h8, e6, hs, hs2, hr1, hr2, lp_rDo_end, hz, hc, hg, ht, hm, br_ite,
      holdsD_eq hr, hoD_eq hr]
    have hv0 : decide (((vicN ⟨rk, rty, rho, rge, rla⟩ h nw 8 : Nat) : Int) = 0) = !vicB ⟨rk, rty, rho, rge, rla⟩ h nw 8 := by
      have := vicN_zero ⟨rk, rty, rho, rge, rla⟩ h nw 8
      cases hb : vicB ⟨rk, rty, rho, rge, rla⟩ h nw 8
      · rw [this.2 hb]; rfl
      · have h2 : vicN ⟨rk, rty, rho, rge, rla⟩ h nw 8 ≠ 0 := fun e => by rw [this.1 e] at hb; cases hb
        rw [Bool.not_true, decide_eq_false_iff_not]
        omega
    have htd (x : R) : takeR (dropR x) h cty = takeR x h cty := rfl
    have hq : (nw = rk h.toNat) = (rk h.toNat = nw) := propext ⟨Eq.symm, Eq.symm⟩
    simp only [hv0]
    unfold doR key preemptR registerR leaveR all8
    simp only [htd, hq]
    clear hs hs2 hc hg ht hz hm hr1 hr2 hk0 hnk hst hsk hv0 htd hq
    by_cases h4 : rk h.toNat = nw
    · have hb (a b cc : Bool) : (bif !a then !b && (cc && true) else true) = (a || (true && (!b && cc))) := by cases a <;> cases b <;> cases cc <;> rfl
      simp only [h4, decide_true, hb]
      generalize (decide (nw = 0) || (true && (!decide (rty = 0) && decide (rho = h)))) = b1
      grind (splits := 40) [dropR]
    · have hb (a b cc : Bool) : (bif !a then !b && (cc && false) else true) = (a || (false && (!b && cc))) := by cases a <;> cases b <;> cases cc <;> rfl
      simp only [h4, decide_false, hb]
      generalize (decide (nw = 0) || (false && (!decide (rty = 0) && decide (rho = h)))) = b1
      grind (splits := 40) [dropR]
  · have e : (bif !decide (h < 0) then bif !decide (h > 7) then bif !decide (kd < 4) then decide (kd > 8) else true else true else true) = true := by
      by_cases h0 : h < 0
      · simp [h0]
      · have : h > 7 := by omega
        simp [this]
    rw [e, br_true]
    have e' : (decide (h < 0) || (decide (h ≥ 8) || (decide (kd < 4) || decide (kd > 8)))) = true := by
      by_cases h0 : h < 0
      · simp [h0]
      · have : h ≥ 8 := by omega
        simp [this]
    unfold doR
    rw [if_pos e']
    rfl

end
end Go.Proofs.Ytmionmlellimoaa
