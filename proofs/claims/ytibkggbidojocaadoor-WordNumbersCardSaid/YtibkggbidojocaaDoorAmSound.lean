/- The abstract machine is sound: what it promises of a call holds in the machine. -/
import Derived.Test.YtibkggbidojocaaDoorAmStep2
namespace Go.Am
set_option linter.unusedSimpArgs false
set_option linter.unusedVariables false
set_option linter.unusedSectionVars false

/-- A loop, from a round's head on. -/
def wpIn (P : Program) (c : Code) (Q : Exit → Act → World → Prop) (a : Act) (w : World) : Prop :=
  ∀ (b : Frame) (k : List Item) (cs : List Frame), ∃ e a' w', Q e a' w' ∧ Arrives P (lone (b.at a (.code c :: .inLoop c :: k)) cs w) b k cs e a' w'

theorem wp_of_in {P : Program} {c : Code} {Q : Exit → Act → World → Prop} {a : Act} {w : World} (h : wpIn P c Q a w) : (Code.loop c).wp P Q a w := by
  intro b k cs
  obtain ⟨e, a', w', hq, harr⟩ := h b k cs
  exact ⟨e, a', w', hq, .of_steps (.one step_loop) harr⟩

theorem wpIn_round {P : Program} {c : Code} {Q : Exit → Act → World → Prop} {a : Act} {w : World} (h : c.wp P (Exit.then (wpIn P c Q) Q) a w) : wpIn P c Q a w := by
  intro b k cs
  obtain ⟨e, a₁, w₁, hq, harr⟩ := h b (.inLoop c :: k) cs
  cases e with
  | normal =>
    obtain ⟨e₂, a₂, w₂, hq₂, harr₂⟩ := hq b k cs
    exact ⟨e₂, a₂, w₂, hq₂, .of_steps (Steps.trans harr (.one step_inLoop)) harr₂⟩
  | exit id => exact ⟨_, a₁, w₁, hq, .pass (x := .inLoop c) rfl (fun _ _ => .inl (by simp)) harr⟩
  | goto l => exact ⟨_, a₁, w₁, hq, .pass (x := .inLoop c) rfl (fun _ _ => .inl (by simp)) harr⟩
  | ret => exact ⟨_, a₁, w₁, hq, .pass (x := .inLoop c) rfl (fun _ _ => .inl (by simp)) harr⟩
  | panic ch => exact ⟨_, a₁, w₁, hq, .pass (x := .inLoop c) rfl (fun _ _ => .inl (by simp)) harr⟩
  | outgrown => exact ⟨_, a₁, w₁, hq, .pass (x := .inLoop c) rfl (fun _ _ => .inl (by simp)) harr⟩

def SoundLoop (E : Env) (c : Code) (f : FuncId) (S : St) (Kr : St → Prop) (Ke : Nat → St → Prop) : Prop :=
  ∀ (fn : Func) (H0 : Heap) (ρ0 : Ren) (w0 : World) (ρ lam : Ren) (a : Act) (w : World) (Q : Exit → Act → World → Prop), E.P.funcs[f]? = some fn →
    SR H0 ρ0 w0 (E.ann f) fn.ntmps ρ lam S a w →
    (∀ S' ρ' lam' a' w', SR H0 ρ0 w0 (E.ann f) fn.ntmps ρ' lam' S' a' w' → Kr S' → Q .ret a' w') →
    (∀ id S' ρ' lam' a' w', SR H0 ρ0 w0 (E.ann f) fn.ntmps ρ' lam' S' a' w' → Ke id S' → Q (.exit id) a' w') → wpIn E.P c Q a w

/-- What the machine bears out. -/
structure Sound (E : Env) (R : Rec) : Prop where
  call : ∀ f args H K, R.call f args H K → SoundCall E f args H K
  body : ∀ f args H K, R.call f args H K → ∃ fn, E.P.funcs[f]? = some fn ∧ fn.body.isSome = true
  loop : ∀ c f n S Kr Ke, R.loop c f n S Kr Ke → SoundLoop E c f S Kr Ke
  mono : R.le R
  strict : Strict R
  ext : ExtSound E

section
variable {E : Env} {H0 : Heap} {ρ0 : Ren} {w0 : World} {ann : Ann} {N : Nat} {ρ lam : Ren} {S : St} {a : Act} {w : World} {R : Rec}

theorem normT_look {tm : Nat → Option T} : ∀ {l : List Nat} {m : List (Nat × T)} {t : Nat} {x : T}, normT tm l = some m → look m t = some x → tm t = some x
  | [], m, t, x, h, hl => by simp only [normT, Option.some.injEq] at h; subst h; cases hl
  | s :: l, m, t, x, h, hl => by
    simp only [normT] at h
    split at h
    · rename_i y m' hy hm
      simp only [Option.some.injEq] at h
      subst h
      simp only [look, beq_iff] at hl
      by_cases he : t = s
      · simp only [he, decide_true, cond_true, Option.some.injEq] at hl
        subst hl
        rw [he]; exact hy
      · simp only [he, decide_false, cond_false] at hl
        exact normT_look hm hl
    · cases h

theorem normL_look {tm : Nat → Option Loc} : ∀ {l : List Nat} {m : List (Nat × Loc)} {t : Nat} {x : Loc}, normL tm l = some m → look m t = some x → tm t = some x
  | [], m, t, x, h, hl => by simp only [normL, Option.some.injEq] at h; subst h; cases hl
  | s :: l, m, t, x, h, hl => by
    simp only [normL] at h
    split at h
    · rename_i y m' hy hm
      simp only [Option.some.injEq] at h
      subst h
      simp only [look, beq_iff] at hl
      by_cases he : t = s
      · simp only [he, decide_true, cond_true, Option.some.injEq] at hl
        subst hl
        rw [he]; exact hy
      · simp only [he, decide_false, cond_false] at hl
        exact normL_look hm hl
    · cases h

/-- Of a state less is known. -/
theorem SR.less (h : SR H0 ρ0 w0 ann N ρ lam S a w) {S' : St} (h1 : ∀ t x, S'.tm t = some x → S.tm t = some x) (h2 : ∀ t x, S'.lo t = some x → S.lo t = some x) (h3 : S'.hp = S.hp) :
    SR H0 ρ0 w0 ann N ρ lam S' a w where
  defers := h.defers
  size := h.size
  tm := fun t x hx => h.tm t x (h1 t x hx)
  lpb := fun t s off hx => h.lpb t s off (h1 t _ hx)
  lo := fun s L hL => by rw [h3]; exact h.lo s L (h2 s L hL)
  linj := fun s s' L L' b e1 e2 => h.linj s s' L L' b (h2 _ _ e1) (h2 _ _ e2)
  hr := by rw [h3]; exact h.hr
  since := by rw [h3]; exact h.since

theorem normK_sound (h : SR H0 ρ0 w0 ann N ρ lam S a w) {ts ls : List Nat} {K : St → Prop} (hk : normK ts ls S K) : ∃ S', SR H0 ρ0 w0 ann N ρ lam S' a w ∧ K S' := by
  unfold normK at hk
  split at hk
  · rename_i m l hm hl
    exact ⟨_, h.less (S' := ⟨look m, look l, S.hp⟩) (fun t x hx => normT_look hm hx) (fun t x hx => normL_look hl hx) rfl, hk⟩
  · exact hk.elim

theorem asKT_eq {k : KT} {x : Option T} (h : isKT k x = true) : x = some (asKT k x) := by
  cases k with
  | k k =>
    cases x with
    | none => simp [isKT] at h
    | some y => cases y with
      | v z => simp only [isKT] at h; simp [asKT, T.val, V.asK_eq h]
      | _ => simp [isKT] at h
  | agg ks =>
    cases x with
    | none => simp [isKT] at h
    | some y => cases y with
      | v z =>
        simp only [isKT, Bool.and_eq_true] at h
        simp only [asKT, T.val]
        rw [expand_eq h.2 rfl, ← agg_of_isAgg h.1]
      | _ => simp [isKT] at h
  | lp s =>
    cases x with
    | none => simp [isKT] at h
    | some y => cases y with
      | lp s' off =>
        cases off with
        | zero => simp only [isKT] at h; rw [Nat.eq_of_beq_eq_true h]; rfl
        | succ n => simp [isKT] at h
      | _ => simp [isKT] at h
  | undef =>
    cases x with
    | none => simp [isKT] at h
    | some y => cases y with
      | undef => rfl
      | _ => simp [isKT] at h

theorem isLK_eq {e : TypeId} {ks : List Kind} {x : Option Loc} (h : isLK e ks x = true) : x = some (.cells e (expand ks (locCells x) 0)) := by
  cases x with
  | none => simp [isLK] at h
  | some y => cases y with
    | cells e' cs =>
      simp only [isLK, Bool.and_eq_true] at h
      simp only [locCells]
      rw [expand_eq h.2 rfl, Nat.eq_of_beq_eq_true h.1]
    | iter s p => simp [isLK] at h

theorem openT_look : ∀ {l : List (Nat × KT)} {t : Nat} {x : T}, (openT S l).1 = true → look (openT S l).2 t = some x → S.tm t = some x
  | [], t, x, _, hl => by cases hl
  | (s, k) :: l, t, x, h, hl => by
    simp only [openT, Bool.and_eq_true] at h hl
    simp only [look, beq_iff] at hl
    by_cases he : t = s
    · simp only [he, decide_true, cond_true, Option.some.injEq] at hl
      subst hl
      rw [he]; exact asKT_eq h.1
    · simp only [he, decide_false, cond_false] at hl
      exact openT_look h.2 hl

theorem openL_look : ∀ {l : List (Nat × TypeId × List Kind)} {t : Nat} {x : Loc}, (openL S l).1 = true → look (openL S l).2 t = some x → S.lo t = some x
  | [], t, x, _, hl => by cases hl
  | (s, e, ks) :: l, t, x, h, hl => by
    simp only [openL, Bool.and_eq_true] at h hl
    simp only [look, beq_iff] at hl
    by_cases he : t = s
    · simp only [he, decide_true, cond_true, Option.some.injEq] at hl
      subst hl
      rw [he]; exact isLK_eq h.1
    · simp only [he, decide_false, cond_false] at hl
      exact openL_look h.2 hl

theorem openS_sound (h : SR H0 ρ0 w0 ann N ρ lam S a w) {ts : List (Nat × KT)} {ls : List (Nat × TypeId × List Kind)} {K : St → Prop} (hk : openS ts ls S K) :
    ∃ S', SR H0 ρ0 w0 ann N ρ lam S' a w ∧ K S' := by
  obtain ⟨h1, h2⟩ := req_elim hk
  rw [Bool.and_eq_true] at h1
  exact ⟨_, h.less (S' := ⟨look (openT S ts).2, look (openL S ls).2, S.hp⟩) (fun t x hx => openT_look h1.1 hx) (fun t x hx => openL_look h1.2 hx) rfl, h2⟩

theorem exitsK_sound (h : SR H0 ρ0 w0 ann N ρ lam S a w) {kp : Keep} {K : Ex → St → Prop} : ∀ {l : List Nat} {id : Nat}, exitsK kp K l id S →
    ∃ S', SR H0 ρ0 w0 ann N ρ lam S' a w ∧ K (.exit id) S'
  | [], _, hk => hk.elim
  | j :: l, id, hk => by
    rcases br_elim hk with ⟨hj, hk⟩ | ⟨_, hk⟩
    · rw [Nat.eq_of_beq_eq_true hj]; exact openS_sound h hk
    · exact exitsK_sound h hk

/-- The operations in some order. -/
def stepsI (E : Env) (R : Rec) (ann : Ann) (N : Nat) (ops : Array Oper) : List Nat → St → (St → Prop) → Prop
  | [], S, K => K S
  | i :: l, S, K => match ops[i]? with
    | some o => stepO E R ann N ops.toList o S fun S' => stepsI E R ann N ops l S' K
    | none => stepsI E R ann N ops l S K

theorem stepsI_mono (hm : R.le R) {ops : Array Oper} : ∀ (l : List Nat) {S : St} {K K' : St → Prop}, (∀ S, K S → K' S) → stepsI E R ann N ops l S K → stepsI E R ann N ops l S K'
  | [], _, _, _, h, hk => h _ hk
  | i :: l, _, _, _, h, hk => by
    unfold stepsI at hk ⊢
    split at hk
    · exact stepO_mono hm (fun _ => stepsI_mono hm l h) hk
    · exact stepsI_mono hm l h hk

theorem stepsO_eq {ops : Array Oper} {K : St → Prop} : ∀ (l : List Oper) (i : Nat) {S : St}, ops.toList.drop i = l → stepsO E R ann N ops.toList l S K = stepsI E R ann N ops (List.range' i l.length) S K
  | [], i, _, _ => rfl
  | o :: l, i, S, hl => by
    have hi : ops[i]? = some o := by
      have : (ops.toList.drop i)[0]? = some o := by rw [hl]; rfl
      simpa using this
    rw [List.length_cons, List.range'_succ, stepsI, hi]
    have hl' : ops.toList.drop (i + 1) = l := by rw [← List.drop_drop, hl]; rfl
    simp only [stepsO]
    congr 1
    funext S'
    exact stepsO_eq l (i + 1) hl'

theorem wpOps_sound (hR : Sound E R) {ops : Array Oper} {Q : Exit → Act → World → Prop} : ∀ (l : List Nat) {S : St} {K : St → Prop} {ρ lam : Ren} {a : Act} {w : World},
    SR H0 ρ0 w0 ann N ρ lam S a w → stepsI E R ann N ops l S K → (∀ S' ρ' lam' a' w', SR H0 ρ0 w0 ann N ρ' lam' S' a' w' → K S' → Q .normal a' w') → wpOps E.P ops Q l a w
  | [], S, K, ρ, lam, a, w, h, hk, hq => hq _ _ _ _ _ h hk
  | i :: l, S, K, ρ, lam, a, w, h, hk, hq => by
    rw [wpOps_cons]
    unfold stepsI at hk
    split at hk
    · rename_i o ho
      exact stepO_sound hR.ext hR.call hR.body h ho hk fun S' ρ' lam' a' w' h' hk' => wpOps_sound hR l h' hk' hq
    · rename_i ho
      unfold wpOp
      simp only [ho]
      exact wpOps_sound hR l h hk hq

end
end Go.Am
