/- What is reserved, at any time. -/
import Derived.Test.YtmionmlellimoaaResvP
namespace Go.Proofs.Ytmionmlellimoaa
open Go.Am
set_option maxRecDepth 100000
set_option linter.unusedSimpArgs false
set_option linter.unusedVariables false
set_option linter.unusedSectionVars false

theorem Cm.fold' (kd lba : Int) (dp : Option (Nat × Nat)) (dn dc : Nat) (su : Bool) (ky nw ty : Int) (la : Bool) :
    c32 kd lba dp dn dc su ky nw ty la = Cm.cs ⟨kd, lba, dp, dn, dc, su, ky, nw, ty, la⟩ := rfl

/-- At any time. -/
structure Inv (r : R) : Prop where
  ty : r.ty = 0 ∨ right r.ty = true
  none : r.ty = 0 → r.ho = -1
  all : all8 r.ty = true → r.ho = -1
  one : r.ty ≠ 0 → all8 r.ty = false → ∃ i : Nat, i < 8 ∧ r.ho = i ∧ r.k i ≠ 0
  some : r.ty ≠ 0 → ∃ i : Nat, i < 8 ∧ r.k i ≠ 0

theorem inv0 : Inv ⟨fun _ => 0, 0, -1, 0, false⟩ := ⟨.inl rfl, fun _ => rfl, fun _ => rfl, fun h => absurd rfl h, fun h => absurd rfl h⟩

theorem nobody_iff {k : Nat → Int} : nobody k = true ↔ ∀ i, i < 8 → k i = 0 := by
  unfold nobody
  simp only [Bool.and_eq_true, Bool.or_false, decide_eq_true_eq]
  constructor
  · rintro ⟨h0, h1, h2, h3, h4, h5, h6, h7⟩ i hi
    have h : i = 0 ∨ i = 1 ∨ i = 2 ∨ i = 3 ∨ i = 4 ∨ i = 5 ∨ i = 6 ∨ i = 7 := by omega
    rcases h with rfl | rfl | rfl | rfl | rfl | rfl | rfl | rfl <;> assumption
  · intro h
    exact ⟨h 0 (by omega), h 1 (by omega), h 2 (by omega), h 3 (by omega), h 4 (by omega), h 5 (by omega), h 6 (by omega), h 7 (by omega)⟩

theorem kV_spec (r : R) (h new : Int) : ∀ n j, kV r h new n j = if j < n ∧ vic r h new j = true then 0 else r.k j
  | 0, j => by simp [kV]
  | n + 1, j => by
    have ih := kV_spec r h new n j
    unfold kV
    by_cases hv : vic r h new n = true
    · rw [if_pos hv]
      by_cases hj : j = n
      · subst hj; rw [upd_eq, if_pos ⟨by omega, hv⟩]
      · rw [upd_ne hj, ih]
        by_cases hl : j < n <;> by_cases hw : vic r h new j = true <;> simp [hl, hw] <;> omega
    · rw [if_neg hv, ih]
      by_cases hj : j = n
      · subst hj; simp [hv]
      · by_cases hl : j < n <;> by_cases hw : vic r h new j = true <;> simp [hl, hw] <;> omega

theorem vicB_iff (r : R) (h new : Int) : ∀ n, vicB r h new n = true ↔ ∃ j, j < n ∧ vic r h new j = true
  | 0 => by simp [vicB]
  | n + 1 => by
    unfold vicB
    rw [Bool.or_eq_true, vicB_iff r h new n]
    constructor
    · rintro (⟨j, h1, h2⟩ | h)
      · exact ⟨j, by omega, h2⟩
      · exact ⟨n, by omega, h⟩
    · rintro ⟨j, h1, h2⟩
      by_cases hj : j = n
      · subst hj; exact .inr h2
      · exact .inl ⟨j, by omega, h2⟩

theorem hoB_iff (r : R) (h new : Int) (b : Bool) : ∀ n, hoB r h new b n = true ↔ b = true ∨ ∃ j : Nat, j < n ∧ vic r h new j = true ∧ r.ho = j
  | 0 => by simp [hoB]
  | n + 1 => by
    unfold hoB
    rw [Bool.or_eq_true, hoB_iff r h new b n, Bool.and_eq_true, decide_eq_true_eq]
    constructor
    · rintro ((h | ⟨j, h1, h2, h3⟩) | h)
      · exact .inl h
      · exact .inr ⟨j, by omega, h2, h3⟩
      · exact .inr ⟨n, by omega, h.1, h.2⟩
    · rintro (h | ⟨j, h1, h2, h3⟩)
      · exact .inl (.inl h)
      · by_cases hj : j = n
        · subst hj; exact .inr ⟨h2, h3⟩
        · exact .inl (.inr ⟨j, by omega, h2, h3⟩)

theorem vic_iff {r : R} {h new : Int} {i : Nat} : vic r h new i = true ↔ r.k i ≠ 0 ∧ (i : Int) ≠ h ∧ (new = 0 ∨ r.k i = new) := by
  unfold vic
  simp [Bool.and_eq_true]

theorem right_iff {t : Int} : right t = true ↔ t = 1 ∨ t = 3 ∨ t = 5 ∨ t = 6 ∨ t = 7 ∨ t = 8 := by
  unfold right
  simp [or_assoc]

theorem all8_iff {t : Int} : all8 t = true ↔ t = 7 ∨ t = 8 := by unfold all8; simp

theorem take_inv {r : R} {h t : Int} (h0 : 0 ≤ h) (h8 : h < 8) (hk : r.k h.toNat ≠ 0) (ht : right t = true) : Inv (takeR r h t) := by
  rw [right_iff] at ht
  refine ⟨.inr (right_iff.2 ht), fun hz => ?_, fun ha => ?_, fun _ ha => ?_, fun _ => ⟨h.toNat, by omega, hk⟩⟩
  · simp only [takeR] at hz; omega
  · simp only [takeR] at ha ⊢; rw [if_pos ha]
  · simp only [takeR] at ha ⊢
    rw [if_neg (by simp [ha])]
    exact ⟨h.toNat, by omega, by omega, hk⟩

theorem drop_inv {r : R} : Inv (dropR r) := ⟨.inl rfl, fun _ => rfl, fun _ => rfl, fun h => absurd rfl h, fun h => absurd rfl h⟩

theorem leave_inv {r : R} (hr : Inv r) {h : Int} (h0 : 0 ≤ h) (h8 : h < 8) : Inv (leaveR r h) := by
  unfold leaveR
  simp only []
  split
  · exact drop_inv
  · rename_i hn
    rw [not_or] at hn
    refine ⟨hr.ty, hr.none, hr.all, fun h1 h2 => ?_, fun h1 => ?_⟩
    · obtain ⟨i, hi, e, hk⟩ := hr.one h1 h2
      refine ⟨i, hi, e, ?_⟩
      have : i ≠ h.toNat := by intro e2; exact hn.1 (by rw [e, e2]; omega)
      simpa [upd_ne this] using hk
    · have := hn.2
      rw [nobody_iff] at this
      simp only [Classical.not_forall] at this
      obtain ⟨i, hi, hk⟩ := this
      exact ⟨i, hi, hk⟩

theorem register_inv {r : R} (hr : Inv r) {h new : Int} (h0 : 0 ≤ h) (h8 : h < 8) (la : Bool) : Inv (registerR r h new la) := by
  unfold registerR
  simp only []
  split
  · have h2 : Inv ⟨r.k, r.ty, r.ho, IntKind.u32.wrap (r.ge + 1), la⟩ := ⟨hr.ty, hr.none, hr.all, hr.one, hr.some⟩
    exact leave_inv h2 h0 h8
  · rename_i hn
    refine ⟨hr.ty, hr.none, hr.all, fun h1 h2 => ?_, fun h1 => ?_⟩
    · obtain ⟨i, hi, e, hk⟩ := hr.one h1 h2
      refine ⟨i, hi, e, ?_⟩
      simp only [upd]
      split
      · exact hn
      · exact hk
    · exact ⟨h.toNat, by omega, by simp only [upd_eq]; exact hn⟩

theorem preempt_inv {r : R} (hr : Inv r) {h new ty : Int} (h0 : 0 ≤ h) (h8 : h < 8) (hk : r.k h.toNat ≠ 0) (ht : right ty = true) : Inv (preemptR r h new ty).1 := by
  unfold preemptR
  simp only []
  have hself : kV r h new 8 h.toNat = r.k h.toNat := by
    rw [kV_spec, if_neg]
    rintro ⟨_, hv⟩
    rw [vic_iff] at hv
    exact hv.2.1 (by omega)
  split
  · exact hr
  · split
    · exact hr
    · split
      · exact take_inv h0 h8 (by simpa [dropR, hself] using hk) ht
      · rename_i hn
        rw [hoB_iff] at hn
        refine ⟨hr.ty, hr.none, hr.all, fun h1 h2 => ?_, fun h1 => ⟨h.toNat, by omega, by simpa [hself] using hk⟩⟩
        obtain ⟨i, hi, e, hki⟩ := hr.one h1 h2
        refine ⟨i, hi, e, ?_⟩
        simp only [kV_spec]
        rw [if_neg]
        · exact hki
        · rintro ⟨_, hv⟩
          exact hn (.inr ⟨i, hi, hv, e⟩)

theorem do_inv {r : R} (hr : Inv r) (h : Int) (c : Cm) : Inv (doR r h c).1 := by
  unfold doR
  split
  · exact hr
  rename_i hv
  simp only [Bool.or_eq_true, decide_eq_true_eq, not_or] at hv
  have h0 : 0 ≤ h := by omega
  have h8 : h < 8 := by omega
  split
  · exact hr
  rename_i ht
  split
  · exact hr
  rename_i hk
  split
  · exact register_inv hr h0 h8 _
  rename_i h4
  have hk' : r.k h.toNat ≠ 0 := by
    unfold key at hk
    grind
  have hty : (c.kd = 5 ∨ c.kd = 6 ∨ c.kd = 8) → right c.ty = true := by
    intro hc
    simp only [Bool.and_eq_true, Bool.or_eq_true, decide_eq_true_eq, Bool.not_eq_true', not_and, Bool.not_eq_false] at ht
    exact ht hc
  split
  · rename_i h5
    split
    · exact hr
    · split
      · exact take_inv h0 h8 hk' (hty (.inl (by simpa using h5)))
      · exact hr
  split
  · split
    · exact hr
    · split
      · exact hr
      · exact drop_inv
  split
  · exact ⟨.inl rfl, fun _ => rfl, fun _ => rfl, fun h => absurd rfl h, fun h => absurd rfl h⟩
  · rename_i h5 h6 h7
    simp only [decide_eq_true_eq] at h4 h5 h6 h7
    exact preempt_inv hr h0 h8 hk' (hty (.inr (.inr (by omega))))

end Go.Proofs.Ytmionmlellimoaa
