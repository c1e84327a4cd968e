/- The abstract machine is sound: regions that draw their order; bodies; calls. -/
import Derived.Test.YtibkggbidojocaaDoorAmSound
namespace Go.Am
set_option linter.unusedSimpArgs false
set_option linter.unusedVariables false
set_option linter.unusedSectionVars false

section
variable {E : Env} {H0 : Heap} {ρ0 : Ren} {w0 : World} {ann : Ann} {N : Nat} {ρ lam : Ren} {S : St} {a : Act} {w : World} {R : Rec}

/-- An operation may be done first, if it has nothing to do with those ahead of it. -/
theorem stepsI_first (hR : Sound E R) {ops : Array Oper} {i : Nat} {o : Oper} (hi : ops[i]? = some o) : ∀ (pre : List Nat) (post : List Nat) {S : St} {K : St → Prop},
    (∀ j ∈ pre, ∀ p, ops[j]? = some p → apart (foot E ann ops.toList o) (foot E ann ops.toList p) = true) → stepsI E R ann N ops (pre ++ i :: post) S K →
    stepO E R ann N ops.toList o S fun S' => stepsI E R ann N ops (pre ++ post) S' K
  | [], post, S, K, _, hk => by
    rw [List.nil_append, stepsI, hi] at hk
    exact hk
  | j :: pre, post, S, K, hap, hk => by
    rw [List.cons_append, stepsI] at hk
    have ih : ∀ S', stepsI E R ann N ops (pre ++ i :: post) S' K → stepO E R ann N ops.toList o S' fun S' => stepsI E R ann N ops (pre ++ post) S' K :=
      fun S' h => stepsI_first hR hi pre post (fun j hj => hap j (List.mem_cons_of_mem _ hj)) h
    split at hk
    · rename_i p hp
      have h1 := stepO_mono hR.mono ih hk
      have hap' : apart (foot E ann ops.toList p) (foot E ann ops.toList o) = true := by
        have := hap j (List.mem_cons_self ..) p hp
        simp only [apart, Bool.and_eq_true, Bool.not_eq_true'] at this ⊢
        obtain ⟨⟨⟨⟨⟨⟨⟨h1, h2⟩, h3⟩, h4⟩, h5⟩, h6⟩, h7⟩, h8⟩ := this
        have flip : ∀ {l m : List Nat}, meetN l m = false → meetN m l = false := by
          intro l m h
          have hs := meetN_false h
          cases hq : meetN m l
          · rfl
          · exfalso
            have : ∀ {l' m' : List Nat}, meetN l' m' = true → ∃ x, x ∈ l' ∧ x ∈ m' := by
              intro l' m' hh
              induction l' with
              | nil => cases hh
              | cons y l' ih =>
                rw [meetN, Bool.or_eq_true] at hh
                rcases hh with hh | hh
                · exact ⟨y, List.mem_cons_self .., memNat_iff.1 hh⟩
                · obtain ⟨x, hx1, hx2⟩ := ih hh; exact ⟨x, List.mem_cons_of_mem _ hx1, hx2⟩
            obtain ⟨x, hx1, hx2⟩ := this hq
            exact hs x hx2 hx1
        exact ⟨⟨⟨⟨⟨⟨⟨h3, flip h2⟩, h1⟩, h6⟩, flip h5⟩, h4⟩, h8⟩, h7⟩
      have h2 := stepO_swap hR.mono hR.strict hap' h1
      refine stepO_mono hR.mono ?_ h2
      intro S' h'
      rw [List.cons_append, stepsI, hp]
      exact h'
    · rename_i hp
      have := ih _ hk
      refine stepO_mono hR.mono ?_ this
      intro S' h'
      rw [List.cons_append, stepsI, hp]
      exact h'

theorem edges1_spec {i : Nat} : ∀ {l : List Edge}, edges1 i l = true → ∀ e ∈ l, Region.binds .any e = true → e.on < i
  | [], _, e, he => by cases he
  | x :: l, h, e, he => by
    rw [edges1, Bool.and_eq_true, Bool.or_eq_true] at h
    intro hb
    rcases List.mem_cons.1 he with rfl | he
    · rcases h.1 with h1 | h1
      · rw [hb] at h1; cases h1
      · simpa using h1
    · exact edges1_spec h.2 e he hb

theorem edgesOk_spec : ∀ {l : List Oper} {i : Nat}, edgesOk l i = true → ∀ (j : Nat) (o : Oper), l[j]? = some o → ∀ e ∈ o.after.toList, Region.binds .any e = true → e.on < i + j
  | [], _, _, j, o, h => by simp at h
  | x :: l, i, h, j, o, ho => by
    rw [edgesOk, Bool.and_eq_true] at h
    intro e he hb
    cases j with
    | zero => simp only [List.getElem?_cons_zero, Option.some.injEq] at ho; subst ho; exact edges1_spec h.1 e he hb
    | succ j =>
      have := edgesOk_spec h.2 j o (by simpa using ho) e he hb
      omega

theorem drawOk1_spec {fs : List Foot} {bs : List (List Nat)} {i : Nat} {f : Foot} : ∀ {n : Nat}, drawOk1 fs bs i f n = true → ∀ j, j < n → ∃ g b, fs[j]? = some g ∧ bs[i]? = some b ∧ (j ∈ b ∨ apart f g = true)
  | 0, _, j, hj => by omega
  | n + 1, h, j, hj => by
    rw [drawOk1, Bool.and_eq_true] at h
    by_cases he : j = n
    · subst he
      have h1 := h.1
      split at h1
      · rename_i g b hg hb
        rw [Bool.or_eq_true] at h1
        exact ⟨g, b, hg, hb, h1.imp memNat_iff.1 id⟩
      · cases h1
    · exact drawOk1_spec h.2 j (by omega)

theorem drawOkAll_spec {fs : List Foot} {bs : List (List Nat)} : ∀ {l : List Foot} {k : Nat}, drawOkAll fs bs l k = true → ∀ (i : Nat) (f : Foot), l[i]? = some f → drawOk1 fs bs (k + i) f (k + i) = true
  | [], _, _, i, f, h => by simp at h
  | x :: l, k, h, i, f, hf => by
    rw [drawOkAll, Bool.and_eq_true] at h
    cases i with
    | zero => simp only [List.getElem?_cons_zero, Option.some.injEq] at hf; subst hf; exact h.1
    | succ i =>
      have := drawOkAll_spec h.2 i f (by simpa using hf)
      rw [show k + (i + 1) = k + 1 + i by omega]
      exact this

/-- Each list of the places ahead is made of the edges and of the lists of those ahead. -/
theorem befores_spec : ∀ (l : List Oper) (acc : List (List Nat)) (i : Nat) (b : List Nat), (befores l acc)[i]? = some b →
    (i < acc.length ∧ acc[i]? = some b) ∨ ∃ o, l[i - acc.length]? = some o ∧ acc.length ≤ i ∧
      ∀ j ∈ b, ∃ e ∈ o.after.toList, Region.binds .any e = true ∧ (j = e.on ∨ (e.on < i ∧ ∃ b', (befores l acc)[e.on]? = some b' ∧ j ∈ b'))
  | [], acc, i, b, h => by
    simp only [befores] at h
    refine .inl ⟨?_, h⟩
    rcases Nat.lt_or_ge i acc.length with h' | h'
    · exact h'
    · rw [List.getElem?_eq_none h'] at h; cases h
  | o :: l, acc, i, b, h => by
    simp only [befores] at h ⊢
    have keep : ∀ (l : List Oper) (acc : List (List Nat)) (i : Nat), i < acc.length → (befores l acc)[i]? = acc[i]? := by
      intro l
      induction l with
      | nil => intro acc i hi; rfl
      | cons q l ih =>
        intro acc i hi
        simp only [befores]
        rw [ih _ i (by simp; omega), List.getElem?_append_left hi]
    rcases befores_spec l (acc ++ [before1 acc o.after.toList]) i b h with ⟨h1, h2⟩ | ⟨q, h1, h2, h3⟩
    · simp only [List.length_append, List.length_singleton] at h1
      by_cases hi : i < acc.length
      · rw [List.getElem?_append_left hi] at h2
        exact .inl ⟨hi, h2⟩
      · have hi' : i = acc.length := by omega
        subst hi'
        rw [List.getElem?_append_right (Nat.le_refl _)] at h2
        simp only [Nat.sub_self, List.getElem?_cons_zero, Option.some.injEq] at h2
        subst h2
        refine .inr ⟨o, by simp, Nat.le_refl _, ?_⟩
        intro j hj
        have : ∀ (es : List Edge), j ∈ before1 acc es → ∃ e ∈ es, Region.binds .any e = true ∧ (j = e.on ∨ j ∈ acc[e.on]?.getD []) := by
          intro es
          induction es with
          | nil => intro h; cases h
          | cons e es ih =>
            intro h
            simp only [before1] at h
            cases hb : Region.binds .any e
            · simp only [hb, cond_false] at h
              obtain ⟨e', h1, h2⟩ := ih h
              exact ⟨e', List.mem_cons_of_mem _ h1, h2⟩
            · simp only [hb, cond_true, List.mem_cons, List.mem_append] at h
              rcases h with h | h | h
              · exact ⟨e, List.mem_cons_self .., hb, .inl h⟩
              · exact ⟨e, List.mem_cons_self .., hb, .inr h⟩
              · obtain ⟨e', h1, h2⟩ := ih h
                exact ⟨e', List.mem_cons_of_mem _ h1, h2⟩
        obtain ⟨e, h4, h5, h6⟩ := this _ hj
        refine ⟨e, h4, h5, h6.imp id fun h6 => ?_⟩
        cases hg : acc[e.on]? with
        | none => rw [hg] at h6; cases h6
        | some b' =>
          rw [hg] at h6
          have hlt : e.on < acc.length := by
            rcases Nat.lt_or_ge e.on acc.length with h' | h'
            · exact h'
            · rw [List.getElem?_eq_none h'] at hg; cases hg
          refine ⟨hlt, b', ?_, h6⟩
          rw [keep _ _ _ (by simp; omega), List.getElem?_append_left hlt, hg]
    · simp only [List.length_append, List.length_singleton] at h1 h2 h3
      refine .inr ⟨q, ?_, by omega, h3⟩
      rw [show i - acc.length = i - (acc.length + 1) + 1 by omega]
      simpa using h1

/-- What is not yet done, in the order of the text. -/
def todo (n : Nat) (listed : Array Bool) : List Nat := (List.range n).filter fun i => !listed.getD i false

theorem filter_split {p q : Nat → Bool} {i : Nat} (hpq : ∀ j, j ≠ i → q j = p j) (hi : p i = true) (hqi : q i = false) : ∀ (l : List Nat), i ∈ l → l.Nodup →
    ∃ pre post, l.filter p = pre ++ i :: post ∧ l.filter q = pre ++ post ∧ (∀ j ∈ pre, j ∈ l ∧ p j = true ∧ j ≠ i) ∧ (l.Pairwise (· < ·) → ∀ j ∈ pre, j < i)
  | [], h, _ => by cases h
  | x :: l, h, hn => by
    rw [List.nodup_cons] at hn
    by_cases hx : x = i
    · subst hx
      have hsame : l.filter q = l.filter p := by
        apply List.filter_congr
        intro j hj
        exact hpq j (fun e => hn.1 (e ▸ hj))
      exact ⟨[], l.filter p, by simp [hi], by simp [hqi, hsame], fun j hj => by simp at hj, fun _ j hj => by simp at hj⟩
    · have hil : i ∈ l := by
        rcases List.mem_cons.1 h with h | h
        · exact (hx h.symm).elim
        · exact h
      obtain ⟨pre, post, h1, h2, h3, h4⟩ := filter_split hpq hi hqi l hil hn.2
      cases hp : p x
      · refine ⟨pre, post, by simp [hp, h1], by simp [hpq x hx, hp, h2], fun j hj => ⟨List.mem_cons_of_mem _ (h3 j hj).1, (h3 j hj).2⟩, fun hs => h4 (List.pairwise_cons.1 hs).2⟩
      · refine ⟨x :: pre, post, by simp [hp, h1], by simp [hpq x hx, hp, h2], ?_, ?_⟩
        · intro j hj
          rcases List.mem_cons.1 hj with rfl | hj
          · exact ⟨List.mem_cons_self .., hp, hx⟩
          · exact ⟨List.mem_cons_of_mem _ (h3 j hj).1, (h3 j hj).2⟩
        · intro hs j hj
          rw [List.pairwise_cons] at hs
          rcases List.mem_cons.1 hj with rfl | hj
          · exact hs.1 i hil
          · exact h4 hs.2 j hj

end
end Go.Am
