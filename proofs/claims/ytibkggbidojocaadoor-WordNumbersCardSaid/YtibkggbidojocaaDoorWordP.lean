/- Lines and their words in plain Lean: signs, the automaton of word.Words, the document's answer; that they are one. -/
import Derived.Test.YtibkggbidojocaaDoorAmSep
import Derived.Lib.MapLaws
namespace Go.Proofs.YtibkggbidojocaaDoor
open Go.Am Go.Lib
set_option maxRecDepth 100000
set_option linter.unusedSimpArgs false
set_option linter.unusedVariables false
set_option linter.unusedSectionVars false

/-- The sign that a text begins with: how many bytes, its number; 0: it isn't whole. -/
def sgn (l : List UInt8) : Nat × Nat := if (decodeL l).1 = 65533 ∧ (decodeL l).2 = 1 then (0, 0) else ((decodeL l).2, (decodeL l).1)

theorem decode_drop (bs : List UInt8) (i : Nat) : Utf8.decode (strOf bs) i = decodeL (bs.drop i) := (decodeL_drop (strOf bs) i).symm.trans (by simp [strOf])

theorem dec_of_sgn {l : List UInt8} (h : (sgn l).1 ≠ 0) : decodeL l = ((sgn l).2, (sgn l).1) := by
  unfold sgn at h ⊢
  split
  · rename_i h'; rw [if_pos h'] at h; exact absurd rfl h
  · rfl

theorem dec_bad {l : List UInt8} (h : (sgn l).1 = 0) : decodeL l = (65533, 1) := by
  unfold sgn at h
  split at h
  · rename_i h'; exact Prod.ext h'.1 h'.2
  · have := width_pos ⟨l.toArray⟩ 0
    unfold decodeL at h
    simp only at h
    omega

theorem sgn_le {l : List UInt8} (h : l ≠ []) : (sgn l).1 ≤ l.length := by
  have := decodeL_le l h
  unfold sgn
  split
  · exact Nat.zero_le _
  · exact this

theorem sgn_enc {l : List UInt8} (hl : l ≠ []) (h : (sgn l).1 ≠ 0) : encodeRune ((sgn l).2 : Int) = l.take (sgn l).1 := by
  have hd := dec_of_sgn h
  have := encode_decode l hl (fun hv => by
    unfold sgn at h
    rw [if_pos hv] at h
    exact h rfl)
  rw [hd] at this
  exact this

theorem sgn_rune {l : List UInt8} : (sgn l).2 ≤ 1114111 := by
  have := rune_le ⟨l.toArray⟩ 0
  unfold sgn
  split
  · exact Nat.zero_le _
  · exact this

theorem sgn_small {l : List UInt8} : (sgn l).1 ≤ 4 := by
  unfold sgn
  split
  · exact Nat.zero_le _
  · rw [decodeL_N]
    rcases decodeN_shape l.length (l.getD 0 0).toNat (l.getD 1 0).toNat (l.getD 2 0).toNat (l.getD 3 0).toNat with ⟨c, e⟩ | ⟨c1, c2, c3, cv, e⟩ | ⟨c1, c2, c3, c4, cv, cs, e⟩ | ⟨c1, c2, c3, c4, c5, cv, cw, e⟩ | e
    all_goals (rw [e]; dsimp only; omega)

/-- A sign is no surrogate. -/
theorem sgn_valid {l : List UInt8} (h : (sgn l).1 ≠ 0) : ¬ (55296 ≤ (sgn l).2 ∧ (sgn l).2 < 57344) := by
  have hd := dec_of_sgn h
  rw [decodeL_N] at hd
  have k0 := (l.getD 0 0).toNat_lt
  rcases decodeN_shape l.length (l.getD 0 0).toNat (l.getD 1 0).toNat (l.getD 2 0).toNat (l.getD 3 0).toNat with ⟨c, e⟩ | ⟨c1, c2, c3, cv, e⟩ | ⟨c1, c2, c3, c4, cv, cs, e⟩ | ⟨c1, c2, c3, c4, c5, cv, cw, e⟩ | e
  all_goals (rw [e] at hd; have h2 := congrArg Prod.fst hd; dsimp only at h2; omega)

/-- What stands behind a whole sign changes nothing. -/
theorem decodeN_more' {n m b0 b1 b2 b3 c0 c1 c2 c3 : Nat} (hn : n ≤ m) (h : ¬ (decodeN n b0 b1 b2 b3 = (65533, 1))) (h0 : b0 = c0) (h1 : 1 < n → b1 = c1) (h2 : 2 < n → b2 = c2) (h3 : 3 < n → b3 = c3) :
    decodeN m c0 c1 c2 c3 = decodeN n b0 b1 b2 b3 := by
  subst h0
  rcases decodeN_shape n b0 b1 b2 b3 with ⟨c, e⟩ | ⟨d1, d2, d3, cv, e⟩ | ⟨d1, d2, d3, d4, cv, cs, e⟩ | ⟨d1, d2, d3, d4, d5, cv, cw, e⟩ | e
  · rw [e]; unfold decodeN; rw [if_pos c]
  · have := h1 d2
    subst this
    rw [e]; unfold decodeN
    rw [if_neg (by omega), if_pos ⟨d1, by omega, d3⟩, if_pos (by omega)]
  · have e1 := h1 (by omega)
    have e2 := h2 d2
    subst e1; subst e2
    rw [e]; unfold decodeN
    rw [if_neg (by omega), if_neg (by omega), if_pos ⟨d1, ⟨by omega, d3⟩, by omega, d4⟩, if_pos (by omega)]
  · have e1 := h1 (by omega)
    have e2 := h2 (by omega)
    have e3 := h3 d2
    subst e1; subst e2; subst e3
    rw [e]; unfold decodeN
    rw [if_neg (by omega), if_neg (by omega), if_neg (by omega), if_pos ⟨d1, ⟨by omega, d3⟩, ⟨by omega, d4⟩, by omega, d5⟩, if_pos (by omega)]
  · exact absurd e h

theorem sgn_app {a b : List UInt8} (ha : a ≠ []) (h : (sgn a).1 ≠ 0) : sgn (a ++ b) = sgn a := by
  have hl : 0 < a.length := List.length_pos_iff.2 ha
  have hd : decodeL (a ++ b) = decodeL a := by
    rw [decodeL_N, decodeL_N]
    have hh : ∀ k, k < a.length → (a.getD k 0).toNat = ((a ++ b).getD k 0).toNat := fun k hk => by
      rw [List.getD_eq_getElem?_getD, List.getD_eq_getElem?_getD, List.getElem?_append_left hk]
    refine decodeN_more' (by simp) (fun e => ?_) (hh 0 hl) (hh 1) (hh 2) (hh 3)
    rw [← decodeL_N] at e
    unfold sgn at h
    rw [if_pos ⟨by rw [e], by rw [e]⟩] at h
    exact h rfl
  unfold sgn
  rw [hd]

/-- Is the sign that stands for a fault whole? -/
theorem err_prefix {l : List UInt8} (hl : l ≠ []) (hd : (decodeL l).1 = 65533) : (l.take 3 = [239, 191, 189]) ↔ (sgn l).1 ≠ 0 := by
  constructor
  · intro ht h0
    have hb := dec_bad h0
    obtain ⟨t, rfl⟩ : ∃ t, l = 239 :: 191 :: 189 :: t := by
      match l, ht with
      | a :: b :: c :: t, ht =>
        simp only [List.take_succ_cons, List.take_zero, List.cons.injEq, and_true] at ht
        obtain ⟨rfl, rfl, rfl⟩ := ht
        exact ⟨t, rfl⟩
      | [a, b], ht => simp at ht
      | [a], ht => simp at ht
      | [], ht => simp at ht
    rw [decodeL_N] at hb
    simp only [decodeN, List.getD_cons_zero, List.getD_cons_succ, List.length_cons] at hb
    have e0 : (239 : UInt8).toNat = 239 := rfl
    have e1 : (191 : UInt8).toNat = 191 := rfl
    have e2 : (189 : UInt8).toNat = 189 := rfl
    rw [e0, e1, e2] at hb
    rw [if_neg (by omega), if_neg (by omega), if_pos ⟨by omega, ⟨by omega, by omega⟩, by omega, by omega⟩, if_pos (by omega)] at hb
    cases hb
  · intro h
    have he := sgn_enc hl h
    have h2 : (sgn l).2 = 65533 := by have := dec_of_sgn h; rw [this] at hd; exact hd
    have hlen := congrArg List.length he
    have hle := sgn_le hl
    rw [h2] at he hlen
    have e3 : encodeRune ((65533 : Nat) : Int) = [239, 191, 189] := by decide +kernel
    rw [e3] at he hlen
    simp only [List.length_cons, List.length_nil, List.length_take] at hlen
    have : (sgn l).1 = 3 := by omega
    rw [this] at he
    exact he.symm

/-- A sign, written out, is that sign. -/
theorem sgn_encode {r : Nat} (h1 : r ≤ 1114111) (h2 : ¬ (55296 ≤ r ∧ r < 57344)) (b : List UInt8) : sgn (encodeRune (r : Int) ++ b) = ((encodeRune (r : Int)).length, r) := by
  have hb : ∀ z : Int, 0 ≤ z → z < 256 → (z.toNat.toUInt8).toNat = z.toNat := fun z a b => by
    show (UInt8.ofNat z.toNat).toNat = _
    rw [UInt8.toNat_ofNat']; omega
  have hd : decodeL (encodeRune (r : Int) ++ b) = (r, (encodeRune (r : Int)).length) := by
    rw [decodeL_N]
    unfold encodeRune
    by_cases a1 : r < 128
    · rw [encodeRuneZ_one (by omega) (by omega)]
      simp only [List.map_cons, List.map_nil, List.cons_append, List.nil_append, List.getD_cons_zero, List.length_cons, List.length_nil]
      rw [hb _ (by omega) (by omega)]
      unfold decodeN
      rw [if_pos (by omega)]
      rfl
    · by_cases a2 : r < 2048
      · rw [encodeRuneZ_two (by omega) (by omega)]
        simp only [List.map_cons, List.map_nil, List.cons_append, List.nil_append, List.getD_cons_zero, List.getD_cons_succ, List.length_cons, List.length_nil]
        rw [hb _ (by omega) (by omega), hb _ (by omega) (by omega)]
        unfold decodeN
        rw [if_neg (by omega), if_pos ⟨by omega, by omega, by omega⟩, if_pos (by omega)]
        refine Prod.ext ?_ rfl
        show _ = r
        omega
      · by_cases a3 : r < 65536
        · rw [encodeRuneZ_three (by omega)]
          simp only [List.map_cons, List.map_nil, List.cons_append, List.nil_append, List.getD_cons_zero, List.getD_cons_succ, List.length_cons, List.length_nil]
          rw [hb _ (by omega) (by omega), hb _ (by omega) (by omega), hb _ (by omega) (by omega)]
          unfold decodeN
          rw [if_neg (by omega), if_neg (by omega), if_pos ⟨by omega, ⟨by omega, by omega⟩, by omega, by omega⟩, if_pos (by omega)]
          refine Prod.ext ?_ rfl
          show _ = r
          omega
        · rw [encodeRuneZ_four (by omega) (by omega)]
          simp only [List.map_cons, List.map_nil, List.cons_append, List.nil_append, List.getD_cons_zero, List.getD_cons_succ, List.length_cons, List.length_nil]
          rw [hb _ (by omega) (by omega), hb _ (by omega) (by omega), hb _ (by omega) (by omega), hb _ (by omega) (by omega)]
          unfold decodeN
          rw [if_neg (by omega), if_neg (by omega), if_neg (by omega), if_pos ⟨by omega, ⟨by omega, by omega⟩, ⟨by omega, by omega⟩, by omega, by omega⟩, if_pos (by omega)]
          refine Prod.ext ?_ rfl
          show _ = r
          omega
  unfold sgn
  rw [hd]
  rw [if_neg]
  rintro ⟨e1, e2⟩
  dsimp only at e1 e2
  subst e1
  revert e2
  decide +kernel

end Go.Proofs.YtibkggbidojocaaDoor
