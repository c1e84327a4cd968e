/- The automaton of word.Words and the document's answer, in plain Lean; that they are one. -/
import Derived.Test.YtibkggbidojocaaDoorWordP
namespace Go.Proofs.YtibkggbidojocaaDoor
open Go.Am Go.Lib
set_option maxRecDepth 100000
set_option linter.unusedSimpArgs false
set_option linter.unusedVariables false
set_option linter.unusedSectionVars false

/-- How many signs; are they whole. -/
def cntW (bs : List UInt8) : Nat → Nat → Nat → Nat × Bool
  | 0, _, n => (n, true)
  | f + 1, i, n => if bs.length ≤ i then (n, true) else if (sgn (bs.drop i)).1 = 0 then (0, false) else cntW bs f (i + (sgn (bs.drop i)).1) (n + 1)

structure Wd where
  ws : List (List UInt8)
  buf : List UInt8
  inn : Bool
  text : Bool
  mark : Bool
  shut : Bool

def blankW (r : Nat) : Bool := decide (r = 32 ∨ r = 9 ∨ r = 12288)
def plainW (r : Nat) : Bool := decide (32 ≤ r ∧ r ≠ 34 ∧ r ≠ 127) && !blankW r

def endW (σ : Wd) : Wd := if σ.inn then { σ with ws := σ.ws ++ [σ.buf], buf := [], inn := false, shut := false } else { σ with inn := false, shut := false }

def esc (r : Nat) : Option UInt8 := if r = 34 then some 34 else if r = 92 then some 92 else if r = 110 then some 10 else if r = 116 then some 9 else none

def moveW (r : Nat) (σ : Wd) : Option Wd :=
  if σ.mark then (match esc r with | some b => some { σ with buf := σ.buf ++ [b], mark := false } | none => none)
  else if σ.text then
    (if r = 92 then some { σ with mark := true }
    else if r = 34 then some { σ with text := false, shut := true }
    else if r < 32 then none
    else some { σ with buf := σ.buf ++ encodeRune (r : Int) })
  else if r = 34 then (if σ.inn then none else some { σ with inn := true, text := true })
  else if blankW r then some (endW σ)
  else if σ.shut || !plainW r then none
  else some { σ with inn := true, buf := σ.buf ++ encodeRune (r : Int) }

/-- One sign: the error's number, and what is known then. -/
def stepW (r : Nat) (σ : Wd) : Nat × Wd := match moveW r σ with | none => (14, σ) | some τ => if τ.buf.length > 200 then (2, τ) else (0, τ)

abbrev Res := List (List UInt8) × Nat × Nat

def finW (i : Nat) (σ : Wd) : Res := if σ.text then ([], i, 14) else ((endW σ).ws, 0, 0)

def runW (bs : List UInt8) : Nat → Nat → Wd → Res
  | 0, i, σ => finW i σ
  | f + 1, i, σ => if bs.length ≤ i then finW i σ else if (sgn (bs.drop i)).1 = 0 then ([], i, 14)
      else if (stepW (sgn (bs.drop i)).2 σ).1 = 0 then runW bs f (i + (sgn (bs.drop i)).1) (stepW (sgn (bs.drop i)).2 σ).2 else ([], i, (stepW (sgn (bs.drop i)).2 σ).1)

def w0 : Wd := ⟨[], [], false, false, false, false⟩
def wordsW (bs : List UInt8) : Res := if bs.length > 400 then ([], 400, 2) else runW bs bs.length 0 w0

/-! ### the document's -/

def bareD (bs : List UInt8) : Nat → Nat → List UInt8 → List UInt8 × Nat × Nat
  | 0, i, w => (w, i, 0)
  | f + 1, i, w => if bs.length ≤ i then (w, i, 0)
      else if (sgn (bs.drop i)).1 > 0 ∧ blankW (sgn (bs.drop i)).2 = true then (w, i, 0)
      else if (sgn (bs.drop i)).1 = 0 ∨ (sgn (bs.drop i)).2 < 32 ∨ (sgn (bs.drop i)).2 = 34 ∨ (sgn (bs.drop i)).2 = 127 then ([], i, 14)
      else if (w ++ (bs.drop i).take (sgn (bs.drop i)).1).length > 200 then ([], i, 2)
      else bareD bs f (i + (sgn (bs.drop i)).1) (w ++ (bs.drop i).take (sgn (bs.drop i)).1)

def quotD (bs : List UInt8) : Nat → Nat → List UInt8 → List UInt8 × Nat × Nat
  | 0, i, w => ([], bs.length, 14)
  | f + 1, i, w => if bs.length ≤ i then ([], bs.length, 14)
      else if (sgn (bs.drop i)).1 = 0 ∨ (sgn (bs.drop i)).2 < 32 then ([], i, 14)
      else if (sgn (bs.drop i)).2 = 34 then
        (if bs.length ≤ i + 1 then (w, i + 1, 0)
        else if (sgn (bs.drop (i + 1))).1 = 0 ∨ blankW (sgn (bs.drop (i + 1))).2 = false then ([], i + 1, 14)
        else (w, i + 1, 0))
      else if (sgn (bs.drop i)).2 = 92 then
        (if bs.length ≤ i + 1 then ([], i + 1, 14)
        else if (sgn (bs.drop (i + 1))).1 = 0 then ([], i + 1, 14)
        else match esc (sgn (bs.drop (i + 1))).2 with
          | none => ([], i + 1, 14)
          | some b => if (w ++ [b]).length > 200 then ([], i + 1, 2) else quotD bs f (i + 1 + (sgn (bs.drop (i + 1))).1) (w ++ [b]))
      else if (w ++ (bs.drop i).take (sgn (bs.drop i)).1).length > 200 then ([], i, 2)
      else quotD bs f (i + (sgn (bs.drop i)).1) (w ++ (bs.drop i).take (sgn (bs.drop i)).1)

def docW (bs : List UInt8) : Nat → Nat → List (List UInt8) → Res
  | 0, i, out => (out, 0, 0)
  | f + 1, i, out => if bs.length ≤ i then (out, 0, 0)
      else if (sgn (bs.drop i)).1 = 0 then ([], i, 14)
      else if blankW (sgn (bs.drop i)).2 = true then docW bs f (i + (sgn (bs.drop i)).1) out
      else if (sgn (bs.drop i)).2 = 34 then
        (if (quotD bs bs.length (i + 1) []).2.2 = 0 then docW bs f (quotD bs bs.length (i + 1) []).2.1 (out ++ [(quotD bs bs.length (i + 1) []).1]) else ([], (quotD bs bs.length (i + 1) []).2.1, (quotD bs bs.length (i + 1) []).2.2))
      else
        (if (bareD bs bs.length i []).2.2 = 0 then docW bs f (bareD bs bs.length i []).2.1 (out ++ [(bareD bs bs.length i []).1]) else ([], (bareD bs bs.length i []).2.1, (bareD bs bs.length i []).2.2))

def wordsD (bs : List UInt8) : Res := if bs.length > 400 then ([], 400, 2) else docW bs bs.length 0 []

/-! ### they are one -/
variable {bs : List UInt8}

theorem drop_ne {i : Nat} (h : i < bs.length) : bs.drop i ≠ [] := by
  intro e
  have := congrArg List.length e
  simp at this
  omega

/-- The run, whatever fuel there is beyond the need. -/
theorem runW_fuel : ∀ (f g i : Nat) (σ : Wd), bs.length ≤ i + f → bs.length ≤ i + g → runW bs f i σ = runW bs g i σ
  | 0, 0, i, σ, _, _ => rfl
  | 0, g + 1, i, σ, h, _ => by
    show finW i σ = _
    unfold runW
    rw [if_pos (by omega)]
  | f + 1, 0, i, σ, _, h => by
    show _ = finW i σ
    unfold runW
    rw [if_pos (by omega)]
  | f + 1, g + 1, i, σ, h1, h2 => by
    unfold runW
    by_cases hl : bs.length ≤ i
    · rw [if_pos hl, if_pos hl]
    · rw [if_neg hl, if_neg hl]
      by_cases h0 : (sgn (bs.drop i)).1 = 0
      · rw [if_pos h0, if_pos h0]
      · rw [if_neg h0, if_neg h0]
        split
        · exact runW_fuel f g _ _ (by omega) (by omega)
        · rfl

def run (bs : List UInt8) (i : Nat) (σ : Wd) : Res := runW bs (bs.length - i) i σ

theorem run_of (f i : Nat) (σ : Wd) (h : bs.length ≤ i + f) : runW bs f i σ = run bs i σ := runW_fuel _ _ _ _ h (by omega)

theorem run_end {i : Nat} {σ : Wd} (h : bs.length ≤ i) : run bs i σ = finW i σ := by
  unfold run
  have : bs.length - i = 0 := by omega
  rw [this]
  rfl

theorem run_step {i : Nat} {σ : Wd} (h : i < bs.length) : run bs i σ = if (sgn (bs.drop i)).1 = 0 then ([], i, 14)
      else if (stepW (sgn (bs.drop i)).2 σ).1 = 0 then run bs (i + (sgn (bs.drop i)).1) (stepW (sgn (bs.drop i)).2 σ).2 else ([], i, (stepW (sgn (bs.drop i)).2 σ).1) := by
  conv => lhs; unfold run
  obtain ⟨f, hf⟩ : ∃ f, bs.length - i = f + 1 := ⟨bs.length - i - 1, by omega⟩
  rw [hf]
  unfold runW
  rw [if_neg (by omega)]
  by_cases h0 : (sgn (bs.drop i)).1 = 0
  · rw [if_pos h0, if_pos h0]
  · rw [if_neg h0, if_neg h0, run_of _ _ _ (by omega)]

/-- In a word, at its end, or at a blank: as outside, with one word more. -/
theorem run_word {i : Nat} {out : List (List UInt8)} {w : List UInt8} {s : Bool} (h : bs.length ≤ i ∨ ((sgn (bs.drop i)).1 ≠ 0 ∧ blankW (sgn (bs.drop i)).2 = true)) :
    run bs i ⟨out, w, true, false, false, s⟩ = run bs i ⟨out ++ [w], [], false, false, false, false⟩ := by
  by_cases hl : bs.length ≤ i
  · rw [run_end hl, run_end hl]
    rfl
  · rcases h with h | ⟨h1, h2⟩
    · exact absurd h hl
    · have hlt : i < bs.length := by omega
      rw [run_step (σ := ⟨out, w, true, false, false, s⟩) hlt, run_step (σ := ⟨out ++ [w], [], false, false, false, false⟩) hlt, if_neg h1, if_neg h1]
      have hne : (sgn (bs.drop i)).2 ≠ 34 := by
        intro e
        rw [e] at h2
        revert h2
        decide
      simp only [stepW, moveW, h2, if_neg hne, endW, Bool.false_eq_true, if_false, if_true]

theorem bareD_run : ∀ (f i : Nat) (out : List (List UInt8)) (w : List UInt8), bs.length ≤ i + f → 
    run bs i ⟨out, w, true, false, false, false⟩ = if (bareD bs f i w).2.2 = 0 then run bs (bareD bs f i w).2.1 ⟨out ++ [(bareD bs f i w).1], [], false, false, false, false⟩ else ([], (bareD bs f i w).2.1, (bareD bs f i w).2.2)
  | 0, i, out, w, h => by
    have e : bareD bs 0 i w = (w, i, 0) := rfl
    rw [e, if_pos rfl]
    exact run_word (.inl (by omega))
  | f + 1, i, out, w, h => by
    by_cases hl : bs.length ≤ i
    · have e : bareD bs (f + 1) i w = (w, i, 0) := by unfold bareD; rw [if_pos hl]
      rw [e, if_pos rfl]
      exact run_word (.inl hl)
    · by_cases hb : (sgn (bs.drop i)).1 > 0 ∧ blankW (sgn (bs.drop i)).2 = true
      · have e : bareD bs (f + 1) i w = (w, i, 0) := by unfold bareD; rw [if_neg hl, if_pos hb]
        rw [e, if_pos rfl]
        exact run_word (.inr ⟨by omega, hb.2⟩)
      · rw [run_step (σ := ⟨out, w, true, false, false, false⟩) (by omega)]
        by_cases h0 : (sgn (bs.drop i)).1 = 0
        · have e : bareD bs (f + 1) i w = ([], i, 14) := by unfold bareD; rw [if_neg hl, if_neg hb, if_pos (Or.inl h0)]
          rw [e, if_pos h0, if_neg (by intro h; cases h)]
        · have hbl : blankW (sgn (bs.drop i)).2 = false := by
            cases hx : blankW (sgn (bs.drop i)).2
            · rfl
            · exact absurd ⟨by omega, hx⟩ hb
          rw [if_neg h0]
          by_cases hq : (sgn (bs.drop i)).2 < 32 ∨ (sgn (bs.drop i)).2 = 34 ∨ (sgn (bs.drop i)).2 = 127
          · have e : bareD bs (f + 1) i w = ([], i, 14) := by unfold bareD; rw [if_neg hl, if_neg hb, if_pos (Or.inr hq)]
            have : stepW (sgn (bs.drop i)).2 ⟨out, w, true, false, false, false⟩ = (14, ⟨out, w, true, false, false, false⟩) := by
              simp only [stepW, moveW, hbl, Bool.false_eq_true, if_false, if_true, plainW, Bool.not_false, Bool.and_true, Bool.false_or]
              by_cases h34 : (sgn (bs.drop i)).2 = 34
              · simp [h34]
              · rw [if_neg h34, if_pos (by simp; omega)]
            rw [e, this, if_neg (by intro h; cases h), if_neg (by intro h; cases h)]
          · have hq' : ¬ ((sgn (bs.drop i)).1 = 0 ∨ (sgn (bs.drop i)).2 < 32 ∨ (sgn (bs.drop i)).2 = 34 ∨ (sgn (bs.drop i)).2 = 127) := by omega
            have hm : moveW (sgn (bs.drop i)).2 ⟨out, w, true, false, false, false⟩ = some ⟨out, w ++ (bs.drop i).take (sgn (bs.drop i)).1, true, false, false, false⟩ := by
              simp only [moveW, hbl, Bool.false_eq_true, if_false, if_true, plainW, Bool.not_false, Bool.and_true, Bool.false_or]
              rw [if_neg (by omega), if_neg (by simp; omega), sgn_enc (drop_ne (by omega)) h0]
            by_cases hbig : (w ++ (bs.drop i).take (sgn (bs.drop i)).1).length > 200
            · have e : bareD bs (f + 1) i w = ([], i, 2) := by unfold bareD; rw [if_neg hl, if_neg hb, if_neg hq', if_pos hbig]
              have : (stepW (sgn (bs.drop i)).2 ⟨out, w, true, false, false, false⟩).1 = 2 := by simp only [stepW, hm]; rw [if_pos hbig]
              rw [e, this, if_neg (by intro h; cases h), if_neg (by intro h; cases h)]
            · have e : bareD bs (f + 1) i w = bareD bs f (i + (sgn (bs.drop i)).1) (w ++ (bs.drop i).take (sgn (bs.drop i)).1) := by
                conv => lhs; unfold bareD
                rw [if_neg hl, if_neg hb, if_neg hq', if_neg hbig]
              have : stepW (sgn (bs.drop i)).2 ⟨out, w, true, false, false, false⟩ = (0, ⟨out, w ++ (bs.drop i).take (sgn (bs.drop i)).1, true, false, false, false⟩) := by simp only [stepW, hm]; rw [if_neg hbig]
              rw [e, this, if_pos rfl]
              exact bareD_run f _ out _ (by omega)

theorem run_shut {i : Nat} {out : List (List UInt8)} {w : List UInt8} (hl : ¬ bs.length ≤ i) (h : (sgn (bs.drop i)).1 = 0 ∨ blankW (sgn (bs.drop i)).2 = false) :
    run bs i ⟨out, w, true, false, false, true⟩ = ([], i, 14) := by
  rw [run_step (σ := ⟨out, w, true, false, false, true⟩) (by omega)]
  by_cases h0 : (sgn (bs.drop i)).1 = 0
  · rw [if_pos h0]
  · rw [if_neg h0]
    have hbl : blankW (sgn (bs.drop i)).2 = false := by rcases h with h | h; exact absurd h h0; exact h
    have : stepW (sgn (bs.drop i)).2 ⟨out, w, true, false, false, true⟩ = (14, ⟨out, w, true, false, false, true⟩) := by
      simp only [stepW, moveW, hbl, Bool.false_eq_true, if_false, if_true, Bool.true_or]
      by_cases h34 : (sgn (bs.drop i)).2 = 34
      · simp [h34]
      · simp [h34]
    rw [this, if_neg (by intro h; cases h)]

theorem esc_lt {r : Nat} {b : UInt8} (h : esc r = some b) : r < 128 := by
  unfold esc at h
  split at h
  · omega
  · split at h
    · omega
    · split at h
      · omega
      · split at h
        · omega
        · cases h

/-- A sign below 128 is one byte. -/
theorem sgn_one {l : List UInt8} (h : (sgn l).1 ≠ 0) (h2 : (sgn l).2 < 128) : (sgn l).1 = 1 := by
  have hd := dec_of_sgn h
  rw [decodeL_N] at hd
  rcases decodeN_shape l.length (l.getD 0 0).toNat (l.getD 1 0).toNat (l.getD 2 0).toNat (l.getD 3 0).toNat with ⟨c, e⟩ | ⟨c1, c2, c3, cv, e⟩ | ⟨c1, c2, c3, c4, cv, cs, e⟩ | ⟨c1, c2, c3, c4, c5, cv, cw, e⟩ | e
  all_goals (rw [e] at hd; have h3 := congrArg Prod.fst hd; have h4 := congrArg Prod.snd hd; dsimp only at h3 h4; omega)

theorem quotD_run : ∀ (f i : Nat) (out : List (List UInt8)) (w : List UInt8), bs.length ≤ i + f → i ≤ bs.length → w.length ≤ 200 →
    run bs i ⟨out, w, true, true, false, false⟩ = if (quotD bs f i w).2.2 = 0 then run bs (quotD bs f i w).2.1 ⟨out ++ [(quotD bs f i w).1], [], false, false, false, false⟩ else ([], (quotD bs f i w).2.1, (quotD bs f i w).2.2)
  | 0, i, out, w, h, hi, hw => by
    have e : quotD bs 0 i w = ([], bs.length, 14) := rfl
    rw [e, run_end (by omega), if_neg (by intro h; cases h)]
    have : i = bs.length := by omega
    subst this
    rfl
  | f + 1, i, out, w, h, hi, hw => by
    by_cases hl : bs.length ≤ i
    · have e : quotD bs (f + 1) i w = ([], bs.length, 14) := by unfold quotD; rw [if_pos hl]
      rw [e, run_end hl, if_neg (by intro h; cases h)]
      have : i = bs.length := by omega
      subst this
      rfl
    · have hne := drop_ne (show i < bs.length by omega)
      have hsl := sgn_le hne
      rw [List.length_drop] at hsl
      rw [run_step (σ := ⟨out, w, true, true, false, false⟩) (by omega)]
      by_cases h0 : (sgn (bs.drop i)).1 = 0
      · have e : quotD bs (f + 1) i w = ([], i, 14) := by unfold quotD; rw [if_neg hl, if_pos (Or.inl h0)]
        rw [e, if_pos h0, if_neg (by intro h; cases h)]
      · rw [if_neg h0]
        by_cases h32 : (sgn (bs.drop i)).2 < 32
        · have e : quotD bs (f + 1) i w = ([], i, 14) := by unfold quotD; rw [if_neg hl, if_pos (Or.inr h32)]
          have : stepW (sgn (bs.drop i)).2 ⟨out, w, true, true, false, false⟩ = (14, ⟨out, w, true, true, false, false⟩) := by
            simp only [stepW, moveW, Bool.false_eq_true, if_false, if_true]
            rw [if_neg (by omega), if_neg (by omega), if_pos h32]
          rw [e, this, if_neg (by intro h; cases h), if_neg (by intro h; cases h)]
        · have hn : ¬ ((sgn (bs.drop i)).1 = 0 ∨ (sgn (bs.drop i)).2 < 32) := by omega
          by_cases h34 : (sgn (bs.drop i)).2 = 34
          · have h1 := sgn_one h0 (by omega)
            have : stepW (sgn (bs.drop i)).2 ⟨out, w, true, true, false, false⟩ = (0, ⟨out, w, true, false, false, true⟩) := by
              simp only [stepW, moveW, h34, Bool.false_eq_true, if_false, if_true]
              exact if_neg (show ¬ w.length > 200 by omega)
            rw [this, if_pos rfl, h1]
            by_cases hl2 : bs.length ≤ i + 1
            · have e : quotD bs (f + 1) i w = (w, i + 1, 0) := by unfold quotD; rw [if_neg hl, if_neg hn, if_pos h34, if_pos hl2]
              rw [e, if_pos rfl]
              exact run_word (.inl hl2)
            · by_cases hb : (sgn (bs.drop (i + 1))).1 = 0 ∨ blankW (sgn (bs.drop (i + 1))).2 = false
              · have e : quotD bs (f + 1) i w = ([], i + 1, 14) := by unfold quotD; rw [if_neg hl, if_neg hn, if_pos h34, if_neg hl2, if_pos hb]
                rw [e, if_neg (by intro h; cases h)]
                exact run_shut hl2 hb
              · have e : quotD bs (f + 1) i w = (w, i + 1, 0) := by unfold quotD; rw [if_neg hl, if_neg hn, if_pos h34, if_neg hl2, if_neg hb]
                rw [e, if_pos rfl]
                refine run_word (.inr ⟨fun h => hb (.inl h), ?_⟩)
                cases hx : blankW (sgn (bs.drop (i + 1))).2
                · exact absurd (.inr hx) hb
                · rfl
          · by_cases h92 : (sgn (bs.drop i)).2 = 92
            · have h1 := sgn_one h0 (by omega)
              have : stepW (sgn (bs.drop i)).2 ⟨out, w, true, true, false, false⟩ = (0, ⟨out, w, true, true, true, false⟩) := by
                simp only [stepW, moveW, h92, Bool.false_eq_true, if_false, if_true]
                exact if_neg (show ¬ w.length > 200 by omega)
              rw [this, if_pos rfl, h1]
              by_cases hl2 : bs.length ≤ i + 1
              · have e : quotD bs (f + 1) i w = ([], i + 1, 14) := by unfold quotD; rw [if_neg hl, if_neg hn, if_neg h34, if_pos h92, if_pos hl2]
                rw [e, if_neg (by intro h; cases h), run_end hl2]
                rfl
              · rw [run_step (σ := ⟨out, w, true, true, true, false⟩) (by omega)]
                by_cases h00 : (sgn (bs.drop (i + 1))).1 = 0
                · have e : quotD bs (f + 1) i w = ([], i + 1, 14) := by unfold quotD; rw [if_neg hl, if_neg hn, if_neg h34, if_pos h92, if_neg hl2, if_pos h00]
                  rw [e, if_pos h00, if_neg (by intro h; cases h)]
                · rw [if_neg h00]
                  cases hesc : esc (sgn (bs.drop (i + 1))).2 with
                  | none =>
                    have e : quotD bs (f + 1) i w = ([], i + 1, 14) := by unfold quotD; rw [if_neg hl, if_neg hn, if_neg h34, if_pos h92, if_neg hl2, if_neg h00, hesc]
                    have : stepW (sgn (bs.drop (i + 1))).2 ⟨out, w, true, true, true, false⟩ = (14, ⟨out, w, true, true, true, false⟩) := by
                      simp only [stepW, moveW, if_true, hesc]
                    rw [e, this, if_neg (by intro h; cases h), if_neg (by intro h; cases h)]
                  | some b =>
                    have hm : moveW (sgn (bs.drop (i + 1))).2 ⟨out, w, true, true, true, false⟩ = some ⟨out, w ++ [b], true, true, false, false⟩ := by simp only [moveW, if_true, hesc]
                    by_cases hbig : (w ++ [b]).length > 200
                    · have e : quotD bs (f + 1) i w = ([], i + 1, 2) := by
                        unfold quotD; rw [if_neg hl, if_neg hn, if_neg h34, if_pos h92, if_neg hl2, if_neg h00, hesc]
                        dsimp only
                        rw [if_pos hbig]
                      have : (stepW (sgn (bs.drop (i + 1))).2 ⟨out, w, true, true, true, false⟩).1 = 2 := by simp only [stepW, hm]; rw [if_pos hbig]
                      rw [e, this, if_neg (by intro h; cases h), if_neg (by intro h; cases h)]
                    · have e : quotD bs (f + 1) i w = quotD bs f (i + 1 + (sgn (bs.drop (i + 1))).1) (w ++ [b]) := by
                        conv => lhs; unfold quotD
                        rw [if_neg hl, if_neg hn, if_neg h34, if_pos h92, if_neg hl2, if_neg h00, hesc]
                        dsimp only
                        rw [if_neg hbig]
                      have : stepW (sgn (bs.drop (i + 1))).2 ⟨out, w, true, true, true, false⟩ = (0, ⟨out, w ++ [b], true, true, false, false⟩) := by simp only [stepW, hm]; rw [if_neg hbig]
                      rw [e, this, if_pos rfl]
                      have hsl2 := sgn_le (drop_ne (show i + 1 < bs.length by omega))
                      rw [List.length_drop] at hsl2
                      exact quotD_run f _ out _ (by omega) (by omega) (by omega)
            · have hm : moveW (sgn (bs.drop i)).2 ⟨out, w, true, true, false, false⟩ = some ⟨out, w ++ (bs.drop i).take (sgn (bs.drop i)).1, true, true, false, false⟩ := by
                simp only [moveW, Bool.false_eq_true, if_false, if_true]
                rw [if_neg h92, if_neg h34, if_neg h32, sgn_enc hne h0]
              by_cases hbig : (w ++ (bs.drop i).take (sgn (bs.drop i)).1).length > 200
              · have e : quotD bs (f + 1) i w = ([], i, 2) := by unfold quotD; rw [if_neg hl, if_neg hn, if_neg h34, if_neg h92, if_pos hbig]
                have : (stepW (sgn (bs.drop i)).2 ⟨out, w, true, true, false, false⟩).1 = 2 := by simp only [stepW, hm]; rw [if_pos hbig]
                rw [e, this, if_neg (by intro h; cases h), if_neg (by intro h; cases h)]
              · have e : quotD bs (f + 1) i w = quotD bs f (i + (sgn (bs.drop i)).1) (w ++ (bs.drop i).take (sgn (bs.drop i)).1) := by
                  conv => lhs; unfold quotD
                  rw [if_neg hl, if_neg hn, if_neg h34, if_neg h92, if_neg hbig]
                have : stepW (sgn (bs.drop i)).2 ⟨out, w, true, true, false, false⟩ = (0, ⟨out, w ++ (bs.drop i).take (sgn (bs.drop i)).1, true, true, false, false⟩) := by simp only [stepW, hm]; rw [if_neg hbig]
                rw [e, this, if_pos rfl]
                exact quotD_run f _ out _ (by omega) (by omega) (by omega)

theorem quotD_le : ∀ (f i : Nat) (w : List UInt8), i ≤ bs.length → (quotD bs f i w).2.2 = 0 → i < (quotD bs f i w).2.1
  | 0, i, w, hi, h => by cases h
  | f + 1, i, w, hi, h => by
    revert h
    unfold quotD
    by_cases hl : bs.length ≤ i
    · rw [if_pos hl]; intro h; cases h
    · rw [if_neg hl]
      have hsl := sgn_le (drop_ne (show i < bs.length by omega))
      rw [List.length_drop] at hsl
      by_cases h1 : (sgn (bs.drop i)).1 = 0 ∨ (sgn (bs.drop i)).2 < 32
      · rw [if_pos h1]; intro h; cases h
      · rw [if_neg h1]
        split
        · split
          · intro _; exact Nat.lt_succ_self _
          · split
            · intro h; cases h
            · intro _; exact Nat.lt_succ_self _
        · split
          · split
            · intro h; cases h
            · rename_i hl2
              have hsl2 := sgn_le (drop_ne (show i + 1 < bs.length by omega))
              rw [List.length_drop] at hsl2
              split
              · intro h; cases h
              · split
                · intro h; cases h
                · split
                  · intro h; cases h
                  · intro h; have := quotD_le f _ _ (by omega) h; omega
          · split
            · intro h; cases h
            · intro h; have := quotD_le f _ _ (by omega) h; omega

theorem bareD_le : ∀ (f i : Nat) (w : List UInt8), (bareD bs f i w).2.2 = 0 → i ≤ (bareD bs f i w).2.1
  | 0, i, w, h => Nat.le_refl _
  | f + 1, i, w, h => by
    revert h
    unfold bareD
    split
    · intro _; exact Nat.le_refl _
    · split
      · intro _; exact Nat.le_refl _
      · split
        · intro h; cases h
        · split
          · intro h; cases h
          · intro h; have := bareD_le f _ _ h; omega

/-- The first sign of a word that isn't quoted moves on. -/
theorem bareD_lt {f i : Nat} (hl : i < bs.length) (h0 : (sgn (bs.drop i)).1 ≠ 0) (hb : blankW (sgn (bs.drop i)).2 = false) (h : (bareD bs (f + 1) i []).2.2 = 0) : i < (bareD bs (f + 1) i []).2.1 := by
  revert h
  unfold bareD
  rw [if_neg (by omega), if_neg (fun h => by rw [hb] at h; cases h.2)]
  split
  · intro h; cases h
  · split
    · intro h; cases h
    · intro h; have := bareD_le f _ _ h; omega

theorem docW_run : ∀ (f i : Nat) (out : List (List UInt8)), bs.length ≤ i + f → docW bs f i out = run bs i ⟨out, [], false, false, false, false⟩
  | 0, i, out, h => by rw [run_end (by omega)]; rfl
  | f + 1, i, out, h => by
    unfold docW
    by_cases hl : bs.length ≤ i
    · rw [if_pos hl, run_end hl]; rfl
    · rw [if_neg hl]
      have hne := drop_ne (show i < bs.length by omega)
      by_cases h0 : (sgn (bs.drop i)).1 = 0
      · rw [if_pos h0, run_step (by omega), if_pos h0]
      · rw [if_neg h0]
        cases hb : blankW (sgn (bs.drop i)).2 with
        | true =>
          rw [if_pos rfl, docW_run f _ out (by omega), run_step (i := i) (by omega), if_neg h0]
          have hn34 : (sgn (bs.drop i)).2 ≠ 34 := by
            intro e
            rw [e] at hb
            revert hb
            decide
          have : stepW (sgn (bs.drop i)).2 ⟨out, [], false, false, false, false⟩ = (0, ⟨out, [], false, false, false, false⟩) := by
            simp only [stepW, moveW, hb, endW, Bool.false_eq_true, if_false, if_true, if_neg hn34, List.length_nil, gt_iff_lt, Nat.not_lt_zero]
          rw [this, if_pos rfl]
        | false =>
          rw [if_neg (by intro h; cases h)]
          by_cases h34 : (sgn (bs.drop i)).2 = 34
          · have h1 := sgn_one h0 (by omega)
            rw [if_pos h34, run_step (i := i) (by omega), if_neg h0]
            have : stepW (sgn (bs.drop i)).2 ⟨out, [], false, false, false, false⟩ = (0, ⟨out, [], true, true, false, false⟩) := by
              simp only [stepW, moveW, h34, Bool.false_eq_true, if_false, if_true, List.length_nil, gt_iff_lt, Nat.not_lt_zero]
            rw [this, if_pos rfl, h1, quotD_run bs.length (i + 1) out [] (by omega) (by omega) (by simp)]
            by_cases hq : (quotD bs bs.length (i + 1) []).2.2 = 0
            · rw [if_pos hq, if_pos hq]
              have := quotD_le bs.length (i + 1) [] (by omega) hq
              exact docW_run f _ _ (by omega)
            · rw [if_neg hq, if_neg hq]
          · rw [if_neg h34]
            have hr : run bs i ⟨out, [], false, false, false, false⟩ = run bs i ⟨out, [], true, false, false, false⟩ := by
              rw [run_step (σ := ⟨out, [], false, false, false, false⟩) (by omega), run_step (σ := ⟨out, [], true, false, false, false⟩) (by omega), if_neg h0, if_neg h0]
              simp only [stepW, moveW, hb, if_neg h34, Bool.false_eq_true, if_false, if_true]
              by_cases hp : (false || !plainW (sgn (bs.drop i)).2) = true
              · rw [if_pos hp]; rfl
              · rw [if_neg hp]
            rw [hr, bareD_run bs.length i out [] (by omega)]
            by_cases hq : (bareD bs bs.length i []).2.2 = 0
            · rw [if_pos hq, if_pos hq]
              obtain ⟨g, hg⟩ : ∃ g, bs.length = g + 1 := ⟨bs.length - 1, by omega⟩
              have := bareD_lt (f := g) (by omega) h0 hb (hg ▸ hq)
              rw [← hg] at this
              exact docW_run f _ _ (by omega)
            · rw [if_neg hq, if_neg hq]

/-- THE DOCUMENT's WORDS ARE THE AUTOMATON's. -/
theorem wordsD_eq (bs : List UInt8) : wordsD bs = wordsW bs := by
  unfold wordsD wordsW
  split
  · rfl
  · rw [docW_run _ _ _ (by omega), run_of _ _ _ (by omega)]
    rfl

end Go.Proofs.YtibkggbidojocaaDoor
