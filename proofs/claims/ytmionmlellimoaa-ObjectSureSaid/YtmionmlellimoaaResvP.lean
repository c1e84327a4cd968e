/- Reservations in plain words, and that the code's functions come to them. -/
import Derived.Test.YtmionmlellimoaaEqsC
import Derived.Test.YtmionmlellimoaaAmUse
namespace Go.Proofs.Ytmionmlellimoaa
open Go.Am
set_option maxRecDepth 100000
set_option linter.unusedSimpArgs false
set_option linter.unusedVariables false

/-- Who is registered, what is reserved. -/
structure R where
  k : Nat → Int
  ty : Int
  ho : Int
  ge : Int
  la : Bool

def R.cs (r : R) : List V := c37 (r.k 0) (r.k 1) (r.k 2) (r.k 3) (r.k 4) (r.k 5) (r.k 6) (r.k 7) r.ty r.ho r.ge r.la

theorem R.fold (r : R) : c37 (r.k 0) (r.k 1) (r.k 2) (r.k 3) (r.k 4) (r.k 5) (r.k 6) (r.k 7) r.ty r.ho r.ge r.la = r.cs := rfl

theorem R.fold' (k : Nat → Int) (ty ho ge : Int) (la : Bool) : c37 (k 0) (k 1) (k 2) (k 3) (k 4) (k 5) (k 6) (k 7) ty ho ge la = R.cs ⟨k, ty, ho, ge, la⟩ := rfl

@[simp] theorem R.fits_cs (r : R) : Am.fits k37 r.cs = true := rfl
@[simp] theorem R.open_cs (r : R) : o37 r.cs = r.cs := rfl

theorem R.cs_ext {r s : R} (hk : ∀ i, i < 8 → r.k i = s.k i) (h1 : r.ty = s.ty) (h2 : r.ho = s.ho) (h3 : r.ge = s.ge) (h4 : r.la = s.la) : r.cs = s.cs := by
  unfold R.cs
  rw [hk 0 (by omega), hk 1 (by omega), hk 2 (by omega), hk 3 (by omega), hk 4 (by omega), hk 5 (by omega), hk 6 (by omega), hk 7 (by omega), h1, h2, h3, h4]

theorem R.eq_iff (r s : R) : Am.cellsEq r.cs s.cs = true ↔ (∀ i, i < 8 → r.k i = s.k i) ∧ r.ty = s.ty ∧ r.ho = s.ho ∧ r.ge = s.ge ∧ r.la = s.la := by
  have e : Am.cellsEq r.cs s.cs = (decide (r.k 0 = s.k 0) && (decide (r.k 1 = s.k 1) && (decide (r.k 2 = s.k 2) && (decide (r.k 3 = s.k 3) && (decide (r.k 4 = s.k 4) && (decide (r.k 5 = s.k 5) && (decide (r.k 6 = s.k 6) &&
    (decide (r.k 7 = s.k 7) && (decide (r.ty = s.ty) && (decide (r.ho = s.ho) && (decide (r.ge = s.ge) && (decide (r.la = s.la) || false)))))))))))) := by kernel_rfl
  rw [e]
  simp only [Bool.and_eq_true, decide_eq_true_eq, Bool.or_false]
  constructor
  · rintro ⟨a0, a1, a2, a3, a4, a5, a6, a7, b1, b2, b3, b4⟩
    refine ⟨fun i hi => ?_, b1, b2, b3, b4⟩
    have h : i = 0 ∨ i = 1 ∨ i = 2 ∨ i = 3 ∨ i = 4 ∨ i = 5 ∨ i = 6 ∨ i = 7 := by omega
    rcases h with rfl | rfl | rfl | rfl | rfl | rfl | rfl | rfl <;> assumption
  · rintro ⟨hk, b1, b2, b3, b4⟩
    exact ⟨hk 0 (by omega), hk 1 (by omega), hk 2 (by omega), hk 3 (by omega), hk 4 (by omega), hk 5 (by omega), hk 6 (by omega), hk 7 (by omega), b1, b2, b3, b4⟩

theorem R.eq_self (r : R) : Am.cellsEq r.cs r.cs = true := (R.eq_iff r r).2 ⟨fun _ _ => rfl, rfl, rfl, rfl, rfl⟩

theorem R.cs_eq_iff (r s : R) : Am.cellsEq r.cs s.cs = true ↔ r.cs = s.cs := by
  constructor
  · intro h
    obtain ⟨a, b, c, d, e⟩ := (R.eq_iff r s).1 h
    exact R.cs_ext a b c d e
  · intro h
    rw [h]; exact R.eq_self s

def upd (k : Nat → Int) (i : Nat) (x : Int) : Nat → Int := fun j => if j = i then x else k j

theorem upd_eq {k : Nat → Int} {i : Nat} {x : Int} : upd k i x i = x := by simp [upd]
theorem upd_ne {k : Nat → Int} {i j : Nat} {x : Int} (h : j ≠ i) : upd k i x j = k j := by simp [upd, h]

/-- The cells with a key turned. -/
theorem set_key (r : R) {i : Nat} (hi : i < 8) (x ty ho ge : Int) (la : Bool) :
    c37 (bif Nat.beq 0 i then x else r.k 0) (bif Nat.beq 1 i then x else r.k 1) (bif Nat.beq 2 i then x else r.k 2) (bif Nat.beq 3 i then x else r.k 3)
      (bif Nat.beq 4 i then x else r.k 4) (bif Nat.beq 5 i then x else r.k 5) (bif Nat.beq 6 i then x else r.k 6) (bif Nat.beq 7 i then x else r.k 7)
      (V.getInt (condV (Nat.beq 8 i) (V.int .u32 x) (V.int .u8 ty))) (V.getInt (condV (Nat.beq 9 i) (V.int .u32 x) (V.int .i64 ho)))
      (bif Nat.beq 10 i then x else ge) (V.getBool (condV (Nat.beq 11 i) (V.int .u32 x) (V.bool la))) = R.cs ⟨upd r.k i x, ty, ho, ge, la⟩ := by
  have h : i = 0 ∨ i = 1 ∨ i = 2 ∨ i = 3 ∨ i = 4 ∨ i = 5 ∨ i = 6 ∨ i = 7 := by omega
  rcases h with rfl | rfl | rfl | rfl | rfl | rfl | rfl | rfl <;> rfl

theorem set_key_ok (x ty ho : Int) (la : Bool) {i : Nat} (hi : i < 8) :
    (Nat.ble (i + 1) 12 && (V.isK (.int .u8) (condV (Nat.beq 8 i) (V.int .u32 x) (V.int .u8 ty)) && (V.isK (.int .i64) (condV (Nat.beq 9 i) (V.int .u32 x) (V.int .i64 ho)) &&
      (V.isK .bool (condV (Nat.beq 11 i) (V.int .u32 x) (V.bool la)) && true)))) = true := by
  have h : i = 0 ∨ i = 1 ∨ i = 2 ∨ i = 3 ∨ i = 4 ∨ i = 5 ∨ i = 6 ∨ i = 7 := by omega
  rcases h with rfl | rfl | rfl | rfl | rfl | rfl | rfl | rfl <;> rfl

theorem nth_key (r : R) {i : Nat} (hi : i < 8) : nthV (c37 (r.k 0) (r.k 1) (r.k 2) (r.k 3) (r.k 4) (r.k 5) (r.k 6) (r.k 7) r.ty r.ho r.ge r.la) i = .int .u32 (r.k i) := by
  have h : i = 0 ∨ i = 1 ∨ i = 2 ∨ i = 3 ∨ i = 4 ∨ i = 5 ∨ i = 6 ∨ i = 7 := by omega
  rcases h with rfl | rfl | rfl | rfl | rfl | rfl | rfl | rfl <;> rfl

theorem nth_key' (r : R) {i : Nat} (hi : i < 8) : nthV r.cs i = .int .u32 (r.k i) := nth_key r hi

def all8 (t : Int) : Bool := decide (t = 7) || decide (t = 8)
def inR (h : Int) : Bool := decide (0 ≤ h) && decide (h < 8)
def key (r : R) (h : Int) : Int := r.k h.toNat

def holds (r : R) (h : Int) : Bool := inR h && !decide (r.ty = 0) && (decide (r.ho = h) || all8 r.ty && !decide (key r h = 0))

/-- May a host read, or write? -/
def permits (r : R) (h : Int) (w : Bool) : Bool :=
  inR h && (decide (r.ty = 0) || holds r h ||
    (if r.ty = 1 then !w else if r.ty = 3 then false else if r.ty = 5 ∨ r.ty = 7 then !w || !decide (key r h = 0) else !decide (key r h = 0)))

def right (t : Int) : Bool := decide (t = 1) || decide (t = 3) || decide (t = 5) || decide (t = 6) || decide (t = 7) || decide (t = 8)

def dropR (r : R) : R := ⟨r.k, 0, -1, r.ge, r.la⟩
def takeR (r : R) (h t : Int) : R := ⟨r.k, t, if all8 t then -1 else h, r.ge, r.la⟩
/-- Is nobody registered? -/
def nobody (k : Nat → Int) : Bool :=
  decide (k 0 = 0) && (decide (k 1 = 0) && (decide (k 2 = 0) && (decide (k 3 = 0) && (decide (k 4 = 0) && (decide (k 5 = 0) && (decide (k 6 = 0) && (decide (k 7 = 0) || false)))))))
def leaveR (r : R) (h : Int) : R :=
  let s : R := ⟨upd r.k h.toNat 0, r.ty, r.ho, r.ge, r.la⟩
  if r.ho = h ∨ nobody s.k = true then dropR s else s
def registerR (r : R) (h new : Int) (la : Bool) : R :=
  let s : R := ⟨r.k, r.ty, r.ho, IntKind.u32.wrap (r.ge + 1), la⟩
  if new = 0 then leaveR s h else ⟨upd s.k h.toNat new, s.ty, s.ho, s.ge, s.la⟩

section
variable (H : Am.Heap) (K : V → Am.Heap → Prop)

theorem sp_all (t : Int) : Am.Rec.call (Am.Run env) 63 [.int .u8 t] H K = K (.bool (all8 t)) H := by
  rw [eq63]
  unfold all8
  by_cases h : t = 7 <;> simp [h] <;> exact Iff.rfl

theorem sp_None : Am.Rec.call (Am.Run env) 26 [] H K = K (.agg (R.cs ⟨fun _ => 0, 0, -1, 0, false⟩)) H := by
  rw [eq26]; rfl

theorem sp_Types : Am.Rec.call (Am.Run env) 61 [] H K = K (.agg (c100 1 3 5 6 7 8)) H := by
  rw [eq61]

theorem sp_drop (r : R) : Am.Rec.call (Am.Run env) 49 [.agg r.cs] H K = K (.agg (dropR r).cs) H := by
  unfold R.cs; rw [eq49]; rfl

theorem sp_take (r : R) (h t : Int) : Am.Rec.call (Am.Run env) 48 [.agg r.cs, .int .i64 h, .int .u8 t] H K = K (.agg (takeR r h t).cs) H := by
  unfold R.cs; rw [eq48]
  simp only [sp_all, isK_bool, req_true, getBool_bool]
  unfold takeR
  cases all8 t <;> rfl

theorem lp_Right (t : Int) (i : Nat) (hi : i < 6) (Kr : St → Prop) (Ke : Nat → St → Prop) :
    Am.Rec.loop (Am.Run env) (Am.loopAt env 45 2) 45 2
      (St.mk (Am.look [(0, T.v (V.int .u8 t)), (5, T.v (V.agg (c100 1 3 5 6 7 8))), (6, T.v (V.int .i64 i))]) (Am.look []) H) Kr Ke =
    if V.getInt (nthV (c100 1 3 5 6 7 8) i) = t then Kr (St.mk (Am.look [(2, T.v (V.bool true))]) (Am.look []) H) else
    Am.Rec.loop (Am.Run env) (Am.loopAt env 45 2) 45 2
      (St.mk (Am.look [(0, T.v (V.int .u8 t)), (5, T.v (V.agg (c100 1 3 5 6 7 8))), (6, T.v (V.int .i64 (i + 1 : Nat)))]) (Am.look []) H) Kr Ke := by
  have h : i = 0 ∨ i = 1 ∨ i = 2 ∨ i = 3 ∨ i = 4 ∨ i = 5 := by omega
  have e1 : decide ((i : Int) < 6) = true := by simp; omega
  have e2 : decide (0 ≤ (i : Int)) = true := by simp
  have e3 : Nat.ble (Nat.succ ((i : Int).toNat * 1)) 6 = true := by simp; omega
  have e4 : V.isK (.int .u8) (nthV (c100 1 3 5 6 7 8) i) = true := by rcases h with rfl | rfl | rfl | rfl | rfl | rfl <;> rfl
  have e5 : (i : Int).toNat * 1 = i := by simp
  rw [lp45_2, wrap_succ (by omega)]
  have e6 : i ≤ 5 := by omega
  simp [e1, e4, e6, br_ite] <;> exact Iff.rfl

theorem lp_Right_end (t : Int) (Kr : St → Prop) (Ke : Nat → St → Prop) :
    Am.Rec.loop (Am.Run env) (Am.loopAt env 45 2) 45 2
      (St.mk (Am.look [(0, T.v (V.int .u8 t)), (5, T.v (V.agg (c100 1 3 5 6 7 8))), (6, T.v (V.int .i64 (6 : Nat)))]) (Am.look []) H) Kr Ke =
    Ke 0 (St.mk (Am.look []) (Am.look []) H) := by
  rw [lp45_2]; rfl

theorem sp_Right (t : Int) : Am.Rec.call (Am.Run env) 45 [.int .u8 t] H K = K (.bool (right t)) H := by
  rw [eq45, sp_Types]
  change Am.Rec.loop _ _ _ _ (St.mk (Am.look [(0, T.v (V.int .u8 t)), (5, T.v (V.agg (c100 1 3 5 6 7 8))), (6, T.v (V.int .i64 (0 : Nat)))]) (Am.look []) H) _ _ = _
  rw [lp_Right H t 0 (by omega), lp_Right H t 1 (by omega), lp_Right H t 2 (by omega), lp_Right H t 3 (by omega), lp_Right H t 4 (by omega), lp_Right H t 5 (by omega), lp_Right_end]
  unfold right
  change (if (1 : Int) = t then K (V.bool true) H else if (3 : Int) = t then K (V.bool true) H else if (5 : Int) = t then K (V.bool true) H else if (6 : Int) = t then K (V.bool true) H else
    if (7 : Int) = t then K (V.bool true) H else if (8 : Int) = t then K (V.bool true) H else K (V.bool false) H) = _
  repeat' split
  all_goals first | (subst_vars; rfl) | skip
  have h1 : ¬ t = 1 := by omega
  have h2 : ¬ t = 3 := by omega
  have h3 : ¬ t = 5 := by omega
  have h4 : ¬ t = 6 := by omega
  have h5 : ¬ t = 7 := by omega
  have h6 : ¬ t = 8 := by omega
  simp [h1, h2, h3, h4, h5, h6] <;> exact Iff.rfl

theorem in_of {h : Int} (h0 : 0 ≤ h) (h8 : h < 8) : inR h = true := by simp [inR, h0, h8]
theorem idx {h : Int} : 0 + h.toNat * 1 = h.toNat := by omega

theorem sp_Holds (r : R) (h : Int) : Am.Rec.call (Am.Run env) 47 [.agg r.cs, .int .i64 h] H K = K (.bool (holds r h)) H := by
  unfold R.cs
  rw [eq47]
  simp only [sp_all, idx]
  by_cases hr : 0 ≤ h ∧ h < 8
  · obtain ⟨h0, h8⟩ := hr
    have e1 : ¬ h < 0 := by omega
    have e2 : ¬ h ≥ 8 := by omega
    have e3 : h ≤ 11 := by omega
    have e4 : h.toNat < 8 := by omega
    rw [nth_key r e4]
    unfold holds key
    rw [in_of h0 h8]
    by_cases ht : r.ty = 0
    · simp [e1, e2, ht] <;> exact Iff.rfl
    · by_cases hh : r.ho = h
      · simp [e1, e2, h0, h8, ht, hh] <;> exact Iff.rfl
      · cases ha : all8 r.ty <;> simp [e1, e2, h0, h8, ht, hh, e3] <;> exact Iff.rfl
  · have e : (bif !decide (h < 0) then bif !decide (h ≥ 8) then decide (r.ty = 0) else true else true) = true := by
      by_cases h0 : h < 0
      · simp [h0] <;> exact Iff.rfl
      · have : h ≥ 8 := by omega
        simp [this] <;> exact Iff.rfl
    rw [e, br_true]
    have : inR h = false := by
      unfold inR
      by_cases h0 : 0 ≤ h
      · have : ¬ h < 8 := fun h8 => hr ⟨h0, h8⟩
        simp [this] <;> exact Iff.rfl
      · simp [h0] <;> exact Iff.rfl
    simp [holds, this] <;> exact Iff.rfl

theorem not_in {h : Int} (hr : ¬ (0 ≤ h ∧ h < 8)) : inR h = false := by
  unfold inR
  by_cases h0 : 0 ≤ h
  · have : ¬ h < 8 := fun h8 => hr ⟨h0, h8⟩
    simp [this]
  · simp [h0]

theorem sp_Permits (r : R) (h : Int) (w : Bool) : Am.Rec.call (Am.Run env) 38 [.agg r.cs, .int .i64 h, .bool w] H K = K (.bool (permits r h w)) H := by
  unfold R.cs
  rw [eq38]
  simp only [R.fold, sp_Holds, idx]
  unfold permits key
  by_cases hr : 0 ≤ h ∧ h < 8
  · rw [in_of hr.1 hr.2]
    obtain ⟨h0, h8⟩ := hr
    have e1 : ¬ h < 0 := by omega
    have e2 : ¬ h ≥ 8 := by omega
    have e3 : h ≤ 11 := by omega
    have e4 : h.toNat < 8 := by omega
    rw [nth_key' r e4]
    by_cases ht : r.ty = 0
    · simp [e1, e2, ht] <;> exact Iff.rfl
    · cases hh : holds r h
      · by_cases t1 : r.ty = 1
        · simp [e1, e2, t1] <;> exact Iff.rfl
        · by_cases t3 : r.ty = 3
          · simp [e1, e2, t3] <;> exact Iff.rfl
          · by_cases t5 : r.ty = 5
            · cases w <;> simp [e1, e2, e3, h0, h8, t5, mergeR] <;> exact Iff.rfl
            · by_cases t7 : r.ty = 7
              · cases w <;> simp [e1, e2, e3, h0, h8, t7, mergeR] <;> exact Iff.rfl
              · simp [e1, e2, e3, h0, h8, ht, t1, t3, t5, t7] <;> exact Iff.rfl
      · simp [e1, e2, ht] <;> exact Iff.rfl
  · rw [not_in hr]
    by_cases h0 : h < 0
    · simp [h0] <;> exact Iff.rfl
    · have : h ≥ 8 := by omega
      simp [this] <;> exact Iff.rfl

theorem sp_rRight (t : Int) : Am.Rec.call (Am.Run env) 54 [.int .u8 t] H K = K (.bool (right t)) H := by
  rw [eq54]
  congr 2
  unfold right
  rw [Bool.eq_iff_iff]
  by_cases h1 : t = 1
  · simp [h1] <;> exact Iff.rfl
  · by_cases h3 : t = 3
    · simp [h3] <;> exact Iff.rfl
    · by_cases h5 : 5 ≤ t
      · simp [h1, h3, h5]; omega
      · simp [h1, h3, h5]; omega

/-- By the document's answer. -/
def holdsD (r : R) (h : Int) : Bool :=
  inR h && !decide (r.ty = 0) && (if all8 r.ty then !decide (key r h = 0) else decide (r.ho = h))

theorem sp_rHolds (r : R) (h : Int) : Am.Rec.call (Am.Run env) 58 [.agg r.cs, .int .i64 h] H K = K (.bool (holdsD r h)) H := by
  unfold R.cs
  rw [eq58]
  simp only [R.fold, idx]
  unfold holdsD key
  by_cases hr : 0 ≤ h ∧ h < 8
  · rw [in_of hr.1 hr.2]
    obtain ⟨h0, h8⟩ := hr
    have e1 : ¬ h < 0 := by omega
    have e2 : ¬ h > 7 := by omega
    have e3 : h ≤ 11 := by omega
    have e4 : h.toNat < 8 := by omega
    rw [nth_key' r e4]
    unfold all8
    by_cases ht : r.ty = 0
    · simp [e1, e2, ht] <;> exact Iff.rfl
    · by_cases t7 : r.ty = 7
      · simp [e1, e2, e3, h0, h8, t7] <;> exact Iff.rfl
      · by_cases t8 : r.ty = 8
        · simp [e1, e2, e3, h0, h8, t8] <;> exact Iff.rfl
        · simp [e1, e2, ht, t7, t8] <;> exact Iff.rfl
  · rw [not_in hr]
    by_cases h0 : h < 0
    · simp [h0] <;> exact Iff.rfl
    · have : h > 7 := by omega
      simp [this] <;> exact Iff.rfl

def permitsD (r : R) (h : Int) (w : Bool) : Bool :=
  inR h && (decide (r.ty = 0) || holdsD r h ||
    (if r.ty = 1 then !w else if r.ty = 5 ∨ r.ty = 7 then !w || !decide (key r h = 0) else if r.ty = 6 ∨ r.ty = 8 then !decide (key r h = 0) else false))

theorem sp_rPermits (r : R) (h : Int) (w : Bool) : Am.Rec.call (Am.Run env) 52 [.agg r.cs, .int .i64 h, .bool w] H K = K (.bool (permitsD r h w)) H := by
  unfold R.cs
  rw [eq52]
  simp only [R.fold, sp_rHolds, idx]
  unfold permitsD key
  by_cases hr : 0 ≤ h ∧ h < 8
  · rw [in_of hr.1 hr.2]
    obtain ⟨h0, h8⟩ := hr
    have e1 : ¬ h < 0 := by omega
    have e2 : ¬ h > 7 := by omega
    have e3 : h ≤ 11 := by omega
    have e4 : h.toNat < 8 := by omega
    rw [nth_key' r e4]
    by_cases ht : r.ty = 0
    · simp [e1, e2, ht] <;> exact Iff.rfl
    · cases hh : holdsD r h
      · by_cases t1 : r.ty = 1
        · simp [e1, e2, e3, h0, h8, t1] <;> exact Iff.rfl
        · by_cases t5 : r.ty = 5
          · cases w <;> simp [e1, e2, e3, h0, h8, t5] <;> exact Iff.rfl
          · by_cases t7 : r.ty = 7
            · cases w <;> simp [e1, e2, e3, h0, h8, t7] <;> exact Iff.rfl
            · by_cases t6 : r.ty = 6
              · simp [e1, e2, e3, h0, h8, t6] <;> exact Iff.rfl
              · by_cases t8 : r.ty = 8
                · simp [e1, e2, e3, h0, h8, t8] <;> exact Iff.rfl
                · simp [e1, e2, e3, h0, h8, ht, t1, t5, t6, t7, t8] <;> exact Iff.rfl
      · simp [e1, e2, ht] <;> exact Iff.rfl
  · rw [not_in hr]
    by_cases h0 : h < 0
    · simp [h0] <;> exact Iff.rfl
    · have : h > 7 := by omega
      simp [this] <;> exact Iff.rfl

theorem sp_rfree (r : R) : Am.Rec.call (Am.Run env) 56 [.agg r.cs] H K = K (.agg (dropR r).cs) H := by
  unfold R.cs; rw [eq56]; rfl

theorem sp_rtake (r : R) (h t : Int) : Am.Rec.call (Am.Run env) 57 [.agg r.cs, .int .i64 h, .int .u8 t] H K = K (.agg (takeR r h t).cs) H := by
  unfold R.cs; rw [eq57]
  unfold takeR all8
  by_cases t7 : t = 7
  · subst t7; rfl
  · by_cases t8 : t = 8
    · subst t8; rfl
    · simp only [t7, t8, decide_false, Bool.or_self, br_false, if_false]; rfl

theorem lp_some (r : R) (i : Nat) (hi : i < 8) (Kr : St → Prop) (Ke : Nat → St → Prop) :
    Am.Rec.loop (Am.Run env) (Am.loopAt env 55 2) 55 2
      (St.mk (Am.look [(1, T.lp 1 0), (3, T.v (V.int .i64 i))]) (Am.look [(1, Loc.cells 38 r.cs)]) H) Kr Ke =
    if r.k i = 0 then
    Am.Rec.loop (Am.Run env) (Am.loopAt env 55 2) 55 2
      (St.mk (Am.look [(1, T.lp 1 0), (3, T.v (V.int .i64 (i + 1 : Nat)))]) (Am.look [(1, Loc.cells 38 r.cs)]) H) Kr Ke
    else Kr (St.mk (Am.look [(2, T.v (V.bool true))]) (Am.look []) H) := by
  unfold R.cs
  rw [lp55_2, wrap_succ (by omega), idx, Int.toNat_natCast, nth_key r hi]
  have e1 : (i : Int) < 8 := by omega
  have e2 : i ≤ 11 := by omega
  by_cases h : r.k i = 0 <;> simp [e1, e2, h] <;> exact Iff.rfl

theorem sp_some (r : R) : Am.Rec.call (Am.Run env) 55 [.agg r.cs] H K = K (.bool (!nobody r.k)) H := by
  unfold R.cs
  rw [eq55]
  change Am.Rec.loop _ _ _ _ (St.mk (Am.look [(1, T.lp 1 0), (3, T.v (V.int .i64 (0 : Nat)))]) (Am.look [(1, Loc.cells 38 r.cs)]) H) _ _ = _
  rw [lp_some H r 0 (by omega), lp_some H r 1 (by omega), lp_some H r 2 (by omega), lp_some H r 3 (by omega), lp_some H r 4 (by omega), lp_some H r 5 (by omega), lp_some H r 6 (by omega), lp_some H r 7 (by omega)]
  unfold R.cs
  rw [lp55_2]
  unfold nobody
  by_cases h0 : r.k 0 = 0
  · by_cases h1 : r.k 1 = 0
    · by_cases h2 : r.k 2 = 0
      · by_cases h3 : r.k 3 = 0
        · by_cases h4 : r.k 4 = 0
          · by_cases h5 : r.k 5 = 0
            · by_cases h6 : r.k 6 = 0
              · by_cases h7 : r.k 7 = 0 <;> simp [h0, h1, h2, h3, h4, h5, h6, h7] <;> exact Iff.rfl
              · simp [h0, h1, h2, h3, h4, h5, h6] <;> exact Iff.rfl
            · simp [h0, h1, h2, h3, h4, h5] <;> exact Iff.rfl
          · simp [h0, h1, h2, h3, h4] <;> exact Iff.rfl
        · simp [h0, h1, h2, h3] <;> exact Iff.rfl
      · simp [h0, h1, h2] <;> exact Iff.rfl
    · simp [h0, h1] <;> exact Iff.rfl
  · simp [h0] <;> exact Iff.rfl

theorem sp_leave (r : R) (h : Int) (h0 : 0 ≤ h) (h8 : h < 8) : Am.Rec.call (Am.Run env) 62 [.agg r.cs, .int .i64 h] H K = K (.agg (leaveR r h).cs) H := by
  unfold R.cs
  rw [eq62]
  have e4 : h.toNat < 8 := by omega
  simp only [idx, set_key_ok _ _ _ _ e4, set_key r e4]
  have e9 : V.getInt (condV (Nat.beq 9 h.toNat) (V.int .u32 0) (V.int .i64 r.ho)) = r.ho := by
    have : 9 ≠ h.toNat := by omega
    simp [this] <;> exact Iff.rfl
  have en : ∀ j, (bif Nat.beq j h.toNat then 0 else r.k j) = upd r.k h.toNat 0 j := by
    intro j; unfold upd; by_cases hj : j = h.toNat <;> simp [hj] <;> exact Iff.rfl
  rw [e9, en, en, en, en, en, en, en, en]
  have hn : Am.cellsEq (c36 (upd r.k h.toNat 0 0) (upd r.k h.toNat 0 1) (upd r.k h.toNat 0 2) (upd r.k h.toNat 0 3) (upd r.k h.toNat 0 4) (upd r.k h.toNat 0 5) (upd r.k h.toNat 0 6) (upd r.k h.toNat 0 7))
      (c36 0 0 0 0 0 0 0 0) = nobody (upd r.k h.toNat 0) := by kernel_rfl
  rw [hn]
  simp only [sp_drop, h0, h8, decide_true, Bool.and_self, req_true]
  unfold leaveR
  by_cases hh : r.ho = h
  · simp [hh] <;> exact Iff.rfl
  · cases hn : nobody (upd r.k h.toNat 0) <;> simp [hh, hn] <;> exact Iff.rfl

/-- A command's cells: kind, address, data, sure, key, new key, type, lasts. -/
structure Cm where
  kd : Int
  lba : Int
  dp : Option (Nat × Nat)
  dn : Nat
  dc : Nat
  su : Bool
  ky : Int
  nw : Int
  ty : Int
  la : Bool

def Cm.cs (c : Cm) : List V := c32 c.kd c.lba c.dp c.dn c.dc c.su c.ky c.nw c.ty c.la
theorem Cm.fold (c : Cm) : c32 c.kd c.lba c.dp c.dn c.dc c.su c.ky c.nw c.ty c.la = c.cs := rfl
@[simp] theorem Cm.fits_cs (c : Cm) : Am.fits k32 c.cs = true := rfl
@[simp] theorem Cm.open_cs (c : Cm) : o32 c.cs = c.cs := rfl

theorem sp_register (r : R) (h : Int) (c : Cm) (h0 : 0 ≤ h) (h8 : h < 8) :
    Am.Rec.call (Am.Run env) 46 [.agg r.cs, .int .i64 h, .agg c.cs] H K = K (.agg (registerR r h c.nw c.la).cs) H := by
  unfold R.cs Cm.cs
  rw [eq46]
  have e4 : h.toNat < 8 := by omega
  simp only [idx, set_key_ok _ _ _ _ e4, set_key r e4, R.fold', sp_leave _ _ _ _ h0 h8]
  unfold registerR
  by_cases hn : c.nw = 0
  · simp [hn]
  · simp [hn, h0, h8]

/-- Is a host one whose key is taken? -/
def vic (r : R) (h new : Int) (i : Nat) : Bool := !decide (r.k i = 0) && (!decide ((i : Int) = h) && (decide (new = 0) || decide (r.k i = new)))

def vicB (r : R) (h new : Int) : Nat → Bool
  | 0 => false
  | i + 1 => vicB r h new i || vic r h new i

def hoB (r : R) (h new : Int) (b : Bool) : Nat → Bool
  | 0 => b
  | i + 1 => hoB r h new b i || (vic r h new i && decide (r.ho = i))

def kV (r : R) (h new : Int) : Nat → Nat → Int
  | 0 => r.k
  | i + 1 => if vic r h new i = true then upd (kV r h new i) i 0 else kV r h new i

def stP (r : R) (h : Int) (c : Cm) (v ho : Bool) (k : Nat → Int) (i : Int) : St :=
  St.mk (Am.look [(1, T.v (V.int .i64 h)), (3, T.lp 3 0), (5, T.lp 5 0), (6, T.lp 6 0), (8, T.v (V.bool v)), (9, T.v (V.bool ho)), (10, T.lp 10 0),
      (48, T.v (V.agg (c36 (r.k 0) (r.k 1) (r.k 2) (r.k 3) (r.k 4) (r.k 5) (r.k 6) (r.k 7)))), (49, T.v (V.int .i64 i))])
    (Am.look [(3, Loc.cells 38 r.cs), (5, Loc.cells 33 c.cs), (6, Loc.cells 38 (c37 0 0 0 0 0 0 0 0 0 0 0 false)),
      (10, Loc.cells 38 (R.cs ⟨k, r.ty, r.ho, r.ge, r.la⟩))]) H

theorem nth_keys (k : Nat → Int) {i : Nat} (hi : i < 8) : nthV (c36 (k 0) (k 1) (k 2) (k 3) (k 4) (k 5) (k 6) (k 7)) i = .int .u32 (k i) := by
  have h : i = 0 ∨ i = 1 ∨ i = 2 ∨ i = 3 ∨ i = 4 ∨ i = 5 ∨ i = 6 ∨ i = 7 := by omega
  rcases h with rfl | rfl | rfl | rfl | rfl | rfl | rfl | rfl <;> rfl

theorem lp_preempt (r : R) (h : Int) (c : Cm) (v ho : Bool) (k : Nat → Int) (i : Nat) (hi : i < 8) (Kr : St → Prop) (Ke : Nat → St → Prop) :
    Am.Rec.loop (Am.Run env) (Am.loopAt env 50 8) 50 8 (stP H r h c v ho k i) Kr Ke =
    Am.Rec.loop (Am.Run env) (Am.loopAt env 50 8) 50 8
      (stP H r h c (v || vic r h c.nw i) (ho || (vic r h c.nw i && decide (r.ho = i))) (if vic r h c.nw i = true then upd k i 0 else k) (i + 1 : Nat)) Kr Ke := by
  have e1 : decide ((i : Int) < 8) = true := by simp; omega
  have e2 : decide (0 ≤ (i : Int)) = true := by simp
  have e3 : Int.toNat (i : Int) * 1 = i := by simp
  have e5 : 0 + i = i := by omega
  have e6 : Nat.ble (Nat.succ i) 8 = true := by simp; omega
  have hst := set_key_ok 0 r.ty r.ho r.la hi
  have hsk := set_key ⟨k, r.ty, r.ho, r.ge, r.la⟩ hi 0 r.ty r.ho r.ge r.la
  conv => lhs; unfold stP R.cs Cm.cs
  rw [lp50_8, wrap_succ (by omega)]
  simp only [e1, e2, e3, e5, e6, nth_keys r.k hi, hst, hsk, isK_int, getInt_int, br_true, req_true, Bool.and_self]
  unfold vic
  generalize decide (r.k i = 0) = b1
  generalize decide ((i : Int) = h) = b2
  generalize decide (c.nw = 0) = b3
  generalize decide (r.k i = c.nw) = b4
  generalize decide (r.ho = (i : Int)) = b5
  cases b1
  · cases b2
    · cases b3 <;> cases b4 <;> cases v <;> cases ho <;> cases b5 <;> rfl
    · cases v <;> cases ho <;> rfl
  · cases v <;> cases ho <;> rfl

theorem lp_preempt_end (r : R) (h : Int) (c : Cm) (v ho : Bool) (k : Nat → Int) (Kr : St → Prop) (Ke : Nat → St → Prop) :
    Am.Rec.loop (Am.Run env) (Am.loopAt env 50 8) 50 8 (stP H r h c v ho k (8 : Nat)) Kr Ke =
    Ke 0 (St.mk (Am.look [(1, T.v (V.int .i64 h)), (3, T.lp 3 0), (5, T.lp 5 0), (6, T.lp 6 0), (8, T.v (V.bool v)), (9, T.v (V.bool ho)), (10, T.lp 10 0)])
      (Am.look [(3, Loc.cells 38 r.cs), (5, Loc.cells 33 c.cs), (6, Loc.cells 38 (c37 0 0 0 0 0 0 0 0 0 0 0 false)),
      (10, Loc.cells 38 (R.cs ⟨k, r.ty, r.ho, r.ge, r.la⟩))]) H) := by
  conv => lhs; unfold stP R.cs Cm.cs
  rw [lp50_8]
  rfl

/-- As the code does it; g: is an empty reservation's holder looked at? -/
def preemptR (r : R) (h new ty : Int) : R × Int :=
  if (decide (new = 0) && !all8 r.ty) = true then (r, 1) else
  let b := decide (new = 0) || (decide (new = r.k h.toNat) && (!decide (r.ty = 0) && decide (r.ho = h)))
  let ho := hoB r h new b 8
  if (!vicB r h new 8 && !ho) = true then (r, 13) else
  let s : R := ⟨kV r h new 8, r.ty, r.ho, IntKind.u32.wrap (r.ge + 1), r.la⟩
  if ho = true then (takeR (dropR s) h ty, 0) else (s, 0)

theorem sp_preempt (r : R) (h : Int) (c : Cm) (h0 : 0 ≤ h) (h8 : h < 8) :
    Am.Rec.call (Am.Run env) 50 [.agg r.cs, .int .i64 h, .agg c.cs] H K =
      K (.tuple [.agg (preemptR r h c.nw c.ty).1.cs, .int .i64 (preemptR r h c.nw c.ty).2]) H := by
  conv => lhs; unfold R.cs Cm.cs
  rw [eq50]
  have e4 : h.toNat < 8 := by omega
  have e6 : Nat.succ h.toNat ≤ 12 := by omega
  have hb : (bif !decide (c.nw = 0) then decide (c.nw = r.k h.toNat) && (!decide (r.ty = 0) && decide (r.ho = h)) else true) =
      (decide (c.nw = 0) || (decide (c.nw = r.k h.toNat) && (!decide (r.ty = 0) && decide (r.ho = h)))) := by
    cases decide (c.nw = 0) <;> rfl
  have hm : mergeR (!decide (c.nw = 0)) true true = true := rfl
  simp only [joinP_eq, br_true, br_false, req_true, look_cons, look_nil, reduceIte, reduceCtorEq, T_val_v, isKT_k, isKT_agg, isKT_lp, isLK_c, locCells_c, nthV_zero, nthV_one, nthV_two, vals_tuple, aggCells_agg, isAgg_agg, getInt_int, getBool_bool, getStr_str, getPtr_ptr, slPtr_slice, slLen_slice, slCap_slice, isK_int, isK_bool, isK_str, isK_ptr, isK_slice, isTuple_tuple, List.length_cons, List.length_nil, Bool.and_true, Bool.true_and, Bool.or_false, Bool.false_or, Bool.and_self, decide_true, decide_false, Bool.not_true, Bool.not_false, beq_dec, ble_dec, Nat.reduceAdd, Nat.reduceEqDiff, Nat.reduceEqDiff, R.fold, Cm.fold, sp_all, idx, nth_key' r e4, h0, h8, e6, hb, hm]
  unfold preemptR
  generalize (decide (c.nw = 0) || (decide (c.nw = r.k h.toNat) && (!decide (r.ty = 0) && decide (r.ho = h)))) = b
  have run : ∀ (Kr : St → Prop) (Ke : Nat → St → Prop), Am.Rec.loop (Am.Run env) (Am.loopAt env 50 8) 50 8 (stP H r h c false b r.k 0) Kr Ke =
      Am.Rec.loop (Am.Run env) (Am.loopAt env 50 8) 50 8 (stP H r h c (vicB r h c.nw 8) (hoB r h c.nw b 8) (kV r h c.nw 8) (8 : Nat)) Kr Ke := by
    intro Kr Ke
    have step (i : Nat) (hi : i < 8) : Am.Rec.loop (Am.Run env) (Am.loopAt env 50 8) 50 8 (stP H r h c (vicB r h c.nw i) (hoB r h c.nw b i) (kV r h c.nw i) i) Kr Ke =
        Am.Rec.loop (Am.Run env) (Am.loopAt env 50 8) 50 8 (stP H r h c (vicB r h c.nw (i + 1)) (hoB r h c.nw b (i + 1)) (kV r h c.nw (i + 1)) (i + 1 : Nat)) Kr Ke :=
      lp_preempt H r h c _ _ _ i hi Kr Ke
    exact (step 0 (by omega)).trans ((step 1 (by omega)).trans ((step 2 (by omega)).trans ((step 3 (by omega)).trans ((step 4 (by omega)).trans ((step 5 (by omega)).trans ((step 6 (by omega)).trans (step 7 (by omega))))))))
  have hs : stP H r h c false b r.k 0 = stP H r h c false b r.k 0 := rfl
  conv at hs => lhs; unfold stP
  have hc (k : Nat → Int) (ge : Int) : c37 (V.getInt (nthV (R.cs ⟨k, r.ty, r.ho, r.ge, r.la⟩) 0)) (V.getInt (nthV (R.cs ⟨k, r.ty, r.ho, r.ge, r.la⟩) 1)) (V.getInt (nthV (R.cs ⟨k, r.ty, r.ho, r.ge, r.la⟩) 2))
      (V.getInt (nthV (R.cs ⟨k, r.ty, r.ho, r.ge, r.la⟩) 3)) (V.getInt (nthV (R.cs ⟨k, r.ty, r.ho, r.ge, r.la⟩) 4)) (V.getInt (nthV (R.cs ⟨k, r.ty, r.ho, r.ge, r.la⟩) 5)) (V.getInt (nthV (R.cs ⟨k, r.ty, r.ho, r.ge, r.la⟩) 6))
      (V.getInt (nthV (R.cs ⟨k, r.ty, r.ho, r.ge, r.la⟩) 7)) (V.getInt (nthV (R.cs ⟨k, r.ty, r.ho, r.ge, r.la⟩) 8)) (V.getInt (nthV (R.cs ⟨k, r.ty, r.ho, r.ge, r.la⟩) 9)) ge (V.getBool (nthV (R.cs ⟨k, r.ty, r.ho, r.ge, r.la⟩) 11)) =
      R.cs ⟨k, r.ty, r.ho, ge, r.la⟩ := rfl
  have hg (k : Nat → Int) : V.getInt (nthV (R.cs ⟨k, r.ty, r.ho, r.ge, r.la⟩) 10) = r.ge := rfl
  have ht : V.getInt (nthV c.cs 6) = c.ty := rfl
  have hz : Am.fits k37 (c37 0 0 0 0 0 0 0 0 0 0 0 false) = true := rfl
  rw [hs, run, lp_preempt_end]
  simp only [joinP_eq, br_true, br_false, req_true, look_cons, look_nil, reduceIte, reduceCtorEq, T_val_v, isKT_k, isKT_agg, isKT_lp, isLK_c, locCells_c, nthV_zero, nthV_one, nthV_two, vals_tuple, aggCells_agg, isAgg_agg, getInt_int, getBool_bool, getStr_str, getPtr_ptr, slPtr_slice, slLen_slice, slCap_slice, isK_int, isK_bool, isK_str, isK_ptr, isK_slice, isTuple_tuple, List.length_cons, List.length_nil, Bool.and_true, Bool.true_and, Bool.or_false, Bool.false_or, Bool.and_self, decide_true, decide_false, Bool.not_true, Bool.not_false, beq_dec, ble_dec, Nat.reduceAdd, Nat.reduceEqDiff, Nat.reduceEqDiff, R.fits_cs, Cm.fits_cs, R.open_cs, hz, hc, hg, ht, sp_drop, sp_take, br_ite]
  grind

/-- What a command comes to. -/
def doR (r : R) (h : Int) (c : Cm) : R × Int :=
  if (decide (h < 0) || (decide (h ≥ 8) || (decide (c.kd < 4) || decide (c.kd > 8)))) = true then (r, 1) else
  if ((decide (c.kd = 5) || (decide (c.kd = 6) || decide (c.kd = 8))) && !right c.ty) = true then (r, 1) else
  if (!decide (key r h = c.ky) || (decide (c.ky = 0) && !decide (c.kd = 4))) = true then (r, 13) else
  if decide (c.kd = 4) = true then (registerR r h c.nw c.la, 0) else
  if decide (c.kd = 5) = true then
    if (!decide (r.ty = 0) && (!holds r h || !decide (r.ty = c.ty))) = true then (r, 13) else
    if decide (r.ty = 0) = true then (takeR r h c.ty, 0) else (r, 0) else
  if decide (c.kd = 6) = true then
    if (!holds r h) = true then (r, 0) else
    if (!decide (r.ty = c.ty)) = true then (r, 1) else (dropR r, 0) else
  if decide (c.kd = 7) = true then (⟨fun _ => 0, 0, -1, IntKind.u32.wrap (r.ge + 1), r.la⟩, 0) else
  preemptR r h c.nw c.ty

theorem sp_Do (r : R) (h : Int) (c : Cm) : Am.Rec.call (Am.Run env) 30 [.agg r.cs, .int .i64 h, .agg c.cs] H K =
    K (.tuple [.agg (doR r h c).1.cs, .int .i64 (doR r h c).2]) H := by
  conv => lhs; unfold R.cs Cm.cs
  rw [eq30]
  by_cases hr : 0 ≤ h ∧ h < 8
  · obtain ⟨h0, h8⟩ := hr
    have e4 : h.toNat < 8 := by omega
    have e6 : Nat.succ h.toNat ≤ 12 := by omega
    have hz (ge : Int) (la : Bool) : c37 0 0 0 0 0 0 0 0 0 (-1) ge la = R.cs ⟨fun _ => 0, 0, -1, ge, la⟩ := rfl
    simp only [joinP_eq, br_true, br_false, req_true, look_cons, look_nil, reduceIte, reduceCtorEq, T_val_v, isKT_k, isKT_agg, isKT_lp, isLK_c, locCells_c, nthV_zero, nthV_one, nthV_two, vals_tuple, aggCells_agg, isAgg_agg, getInt_int, getBool_bool, getStr_str, getPtr_ptr, slPtr_slice, slLen_slice, slCap_slice, isK_int, isK_bool, isK_str, isK_ptr, isK_slice, isTuple_tuple, List.length_cons, List.length_nil, Bool.and_true, Bool.true_and, Bool.or_false, Bool.false_or, Bool.and_self, decide_true, decide_false, Bool.not_true, Bool.not_false, beq_dec, ble_dec, Nat.reduceAdd, Nat.reduceEqDiff, Nat.reduceEqDiff, R.fold, Cm.fold, sp_Right, sp_Holds, sp_take, sp_drop, sp_register _ _ _ _ _ h0 h8, sp_preempt _ _ _ _ _ h0 h8, idx, nth_key' r e4, R.fits_cs, R.open_cs, hz, h0, h8, e6, br_ite]
    unfold doR key
    grind
  · have e : (bif !decide (h < 0) then bif !decide (h ≥ 8) then bif !decide (c.kd < 4) then decide (c.kd > 8) else true else true else true) = true := by
      by_cases h0 : h < 0
      · simp [h0]
      · have : h ≥ 8 := by omega
        simp [this]
    rw [e, br_true]
    have e' : (decide (h < 0) || (decide (h ≥ 8) || (decide (c.kd < 4) || decide (c.kd > 8)))) = true := by
      by_cases h0 : h < 0
      · simp [h0]
      · have : h ≥ 8 := by omega
        simp [this]
    unfold doR
    rw [if_pos e']
    rfl

end

end Go.Proofs.Ytmionmlellimoaa
