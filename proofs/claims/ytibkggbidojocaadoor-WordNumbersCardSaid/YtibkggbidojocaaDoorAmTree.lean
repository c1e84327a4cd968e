/- Ways that were laid into one: what is promised of the one holds on each. -/
import Derived.Test.YtibkggbidojocaaDoorAmMono
namespace Go.Am
set_option linter.unusedSimpArgs false
set_option linter.unusedVariables false
set_option linter.unusedSectionVars false

section
variable {E : Env} {R : Rec} {ann : Ann} {N : Nat}

theorem Tree.run_bind {α β : Type} {k : α → Tree β} {K : β → Prop} : ∀ (t : Tree α), (t.bind k).run K = t.run fun a => (k a).run K
  | .leaf _ => rfl
  | .br c x y => by simp only [Tree.bind, Tree.run, Tree.run_bind x, Tree.run_bind y]
  | .req c x => by simp only [Tree.bind, Tree.run, Tree.run_bind x]
  | .fail => rfl

theorem Tree.run_mono {α : Type} {K K' : α → Prop} (h : ∀ a, K a → K' a) : ∀ {t : Tree α}, t.run K → t.run K'
  | .leaf _, hk => h _ hk
  | .br _ _ _, hk => br_mono (Tree.run_mono h) (Tree.run_mono h) hk
  | .req _ _, hk => req_mono (Tree.run_mono h) hk
  | .fail, hk => hk

theorem st_setT {S : St} {M : MS} {d : Nat} {x : T} : MS.st S { M with U := (d, x) :: M.U } = (M.st S).setT d x := by
  unfold MS.st St.setT
  congr 1
  funext t
  simp only [getU, look]
  cases Nat.beq t d <;> rfl

theorem st_setL {S : St} {M : MS} {s : Nat} {x : Loc} : MS.st S { M with W := (s, x) :: M.W } = (M.st S).setL s x := by
  unfold MS.st St.setL
  congr 1
  funext t
  simp only [getW, look]
  cases Nat.beq t s <;> rfl

theorem putM_run {dst : Option Tmp} {x : T} {S : St} {M : MS} {K : St → Prop} (h : (putM ann N dst x M).run fun M' => K (M'.st S)) : putK ann N dst x (M.st S) K := by
  unfold putM at h
  unfold putK
  cases dst with
  | none => exact h
  | some d =>
    simp only [Tree.run] at h ⊢
    refine req_mono ?_ h
    cases x with
    | v y => intro h; rw [← st_setT]; exact h
    | undef => intro h; rw [← st_setT]; exact h
    | lp s o =>
      simp only []
      cases look ann.base d with
      | none => exact id
      | some s' =>
        simp only []
        cases Nat.beq s s' with
        | true => intro h; simp only [cond_true]; rw [← st_setT]; exact h
        | false => exact id

theorem run_of {α : Type} {d : Dec α} {X : Prop} {K : α → Prop} (h : req (d.rq && d.c) X) (hx : X → K d.x) : d.run K := by
  obtain ⟨h1, h2⟩ := req_elim h
  rw [Bool.and_eq_true] at h1
  unfold Dec.run
  rw [h1.1, h1.2]
  exact hx h2

theorem coreM_run {o : Oper} {S : St} {M : MS} {K : St → Prop} (h : (coreM E ann N o S M).run fun M' => K (M'.st S)) : coreO E R ann N o (M.st S) K := by
  unfold coreM at h
  unfold coreO
  cases hc : cls E ann o with
  | pure =>
    simp only [hc] at h ⊢
    cases hp : pureOp E o.op (evalO (getU S M.U)) with
    | none => simp only [hp] at h; exact h.elim
    | some d => simp only [MS.st, hp] at h ⊢; exact run_of h putM_run
  | lload s =>
    simp only [hc] at h ⊢
    cases hp : lloadOp E o.op (evalO (getU S M.U)) s (getW S M.W s) with
    | none => simp only [hp] at h; exact h.elim
    | some d => simp only [MS.st, hp] at h ⊢; exact run_of h putM_run
  | lstore s =>
    simp only [hc] at h ⊢
    cases hp : lstoreOp E o.op (evalO (getU S M.U)) s (getW S M.W s) with
    | none => simp only [hp] at h; exact h.elim
    | some d =>
      simp only [hp] at h
      simp only [MS.st, hp]
      refine run_of h ?_
      intro h
      have := putM_run h
      rw [st_setL] at this
      exact this
  | hread =>
    simp only [hc] at h ⊢
    cases hp : hreadOp E o.op (evalO (getU S M.U)) S.hp with
    | none => simp only [hp] at h; exact h.elim
    | some d => simp only [MS.st, hp] at h ⊢; exact run_of h putM_run
  | lnew => simp only [hc] at h; exact h.elim
  | hwrite => simp only [hc] at h; exact h.elim

theorem stepM_run {ops : List Oper} {o : Oper} {S : St} {M : MS} {K : St → Prop} (h : (stepM E ann N ops o S M).run fun M' => K (M'.st S)) : stepB E R ann N ops o (M.st S) K := by
  unfold stepM at h
  unfold stepB
  cases hg : o.guard with
  | none => simp only [hg] at h ⊢; exact coreM_run h
  | some p =>
    obtain ⟨j, want⟩ := p
    simp only [hg] at h ⊢
    cases hl : slotOf ops j with
    | none => simp only [hl] at h; exact h.elim
    | some s =>
      simp only [hl] at h ⊢
      have htm : (M.st S).tm s = getU S M.U s := rfl
      rw [htm]
      cases hs : getU S M.U s with
      | none => simp only [hs] at h; exact h.elim
      | some t =>
        cases t with
        | undef => simp only [hs] at h ⊢; exact putM_run h
        | lp a b => simp only [hs] at h; exact h.elim
        | v x =>
          cases x with
          | bool b =>
            simp only [hs] at h ⊢
            have hself : (M.st S).setT s (.v (.bool b)) = M.st S := by
              unfold St.setT MS.st
              congr 1
              funext t
              cases ht : Nat.beq t s with
              | false => rfl
              | true => simp only [cond_true]; rw [Nat.eq_of_beq_eq_true ht, hs]
            cases hk : memNat s M.kn with
            | true =>
              simp only [hk] at h
              cases want <;> cases b
              · have := coreM_run (R := R) h; rw [← hself] at this; exact this
              · have := putM_run h; rw [← hself] at this; exact this
              · have := putM_run h; rw [← hself] at this; exact this
              · have := coreM_run (R := R) h; rw [← hself] at this; exact this
            | false =>
              simp only [hk] at h
              refine br_mono ?_ ?_ h
              · intro h
                have := coreM_run (R := R) h
                have e : MS.st S { M with U := (s, .v (.bool want)) :: M.U, kn := s :: M.kn } = (M.st S).setT s (.v (.bool want)) := st_setT
                rw [e] at this
                exact this
              · intro h
                have := putM_run h
                have e : MS.st S { M with U := (s, .v (.bool (!want))) :: M.U, kn := s :: M.kn } = (M.st S).setT s (.v (.bool (!want))) := st_setT
                rw [e] at this
                exact this
          | _ => simp only [hs] at h; exact h.elim

theorem stepB_mono (hm : R.le R) {ops : List Oper} {o : Oper} {S : St} {K K' : St → Prop} (h : ∀ S, K S → K' S) (hx : stepB E R ann N ops o S K) : stepB E R ann N ops o S K' := by
  rw [stepB_eq] at hx ⊢
  exact stepO_mono hm h hx

theorem stepsT_run (hm : R.le R) {ops : List Oper} {K : St → Prop} {S : St} : ∀ (l : List Oper) {M : MS},
    (stepsT E ann N ops l S M).run (fun M' => K (M'.st S)) → stepsB E R ann N ops l (M.st S) K
  | [], M, h => h
  | o :: l, M, h => by
    unfold stepsT at h
    rw [Tree.run_bind] at h
    refine stepM_run (K := fun S' => stepsB E R ann N ops l S' K) (Tree.run_mono ?_ h)
    intro M' h'
    exact stepsT_run hm l h'

theorem look_cons_self {α : Type} {t : Nat} {m : α} {r : List (Nat × α)} : look ((t, m) :: r) t = some m := by simp [look, Nat.beq_refl]

theorem look_cons_ne {α : Type} {t u : Nat} {m : α} {r : List (Nat × α)} (h : t ≠ u) : look ((u, m) :: r) t = look r t := by
  have : Nat.beq t u = false := by
    cases hb : Nat.beq t u with
    | false => rfl
    | true => exact absurd (Nat.eq_of_beq_eq_true hb) h
  simp [look, this]

/-- What is laid over. -/
def overG {α : Type} (g : Nat → Option α) (A : List (Nat × α)) (t : Nat) : Option α := match look A t with | some x => some x | none => g t

theorem getU_over {S : St} {U : List (Nat × T)} {t : Nat} : getU S U t = overG S.tm U t := by unfold getU overG; cases look U t <;> rfl
theorem getW_over {S : St} {W : List (Nat × Loc)} {t : Nat} : getW S W t = overG S.lo W t := by unfold getW overG; cases look W t <;> rfl

theorem mergeA_keys {α : Type} {g : Nat → Option α} {f : α → α → Option α} {A B : List (Nat × α)} : ∀ {l : List Nat} {r : List (Nat × α)}, mergeA g f A B l = some r →
    ∀ t, look A t = none → look B t = none → look r t = none
  | [], r, h, t, _, _ => by cases h; rfl
  | u :: l, r, h, t, ha, hb => by
    simp only [mergeA] at h
    split at h
    · cases h
    · rename_i r' hr'
      have ih := mergeA_keys hr' t ha hb
      by_cases htu : t = u
      · subst htu
        rw [ha, hb] at h
        cases h
        exact ih
      · split at h
        · cases h; exact ih
        · split at h
          · cases h; rw [look_cons_ne htu]; exact ih
          · cases h
        · split at h
          · split at h
            · cases h; rw [look_cons_ne htu]; exact ih
            · cases h
          · cases h
        · split at h
          · split at h
            · cases h; rw [look_cons_ne htu]; exact ih
            · cases h
          · cases h

theorem mergeA_spec {α : Type} {g : Nat → Option α} {f : α → α → Option α} {c : Bool} (hf : ∀ a b m, f a b = some m → m = if c then a else b) {A B : List (Nat × α)} :
    ∀ {l : List Nat} {r : List (Nat × α)}, mergeA g f A B l = some r → ∀ t ∈ l, overG g r t = if c then overG g A t else overG g B t
  | [], _, _, t, ht => by cases ht
  | u :: l, r, h, t, ht => by
    simp only [mergeA] at h
    split at h
    · cases h
    · rename_i r' hr'
      have ih : t ∈ l → overG g r' t = if c then overG g A t else overG g B t := mergeA_spec hf hr' t
      by_cases htu : t = u
      · subst htu
        split at h
        · rename_i ha hb
          cases h
          have hk := mergeA_keys hr' t ha hb
          simp only [overG, ha, hb, hk]
          cases c <;> rfl
        · rename_i a b ha hb
          split at h
          · rename_i m hm
            cases h
            simp only [overG, look_cons_self, ha, hb, hf _ _ _ hm]
            cases c <;> rfl
          · cases h
        · rename_i a ha hb
          split at h
          · rename_i b hg
            split at h
            · rename_i m hm
              cases h
              simp only [overG, look_cons_self, ha, hb, hg, hf _ _ _ hm]
              cases c <;> rfl
            · cases h
          · cases h
        · rename_i b ha hb
          split at h
          · rename_i a hg
            split at h
            · rename_i m hm
              cases h
              simp only [overG, look_cons_self, ha, hb, hg, hf _ _ _ hm]
              cases c <;> rfl
            · cases h
          · cases h
      · have htl : t ∈ l := by simpa [htu] using ht
        have ih := ih htl
        split at h
        · cases h; exact ih
        · split at h
          · cases h; rw [← ih]; simp only [overG, look_cons_ne htu]
          · cases h
        · split at h
          · split at h
            · cases h; rw [← ih]; simp only [overG, look_cons_ne htu]
            · cases h
          · cases h
        · split at h
          · split at h
            · cases h; rw [← ih]; simp only [overG, look_cons_ne htu]
            · cases h
          · cases h

theorem mergeT1_eq {c : Bool} {a b m : T} (h : mergeT1 c a b = some m) : m = if c then a else b := by
  unfold mergeT1 at h
  split at h
  · cases h; rw [mergeV_eq]; cases c <;> rfl
  · rename_i s o s' o'
    cases hb : (Nat.beq s s' && Nat.beq o o') with
    | false => rw [hb] at h; cases h
    | true =>
      rw [hb] at h
      rw [Bool.and_eq_true] at hb
      cases h
      rw [Nat.eq_of_beq_eq_true hb.1, Nat.eq_of_beq_eq_true hb.2]
      cases c <;> rfl
  · cases h; cases c <;> rfl
  · cases h

theorem mergeL1_eq {c : Bool} {a b m : Loc} (h : mergeL1 c a b = some m) : m = if c then a else b := by
  unfold mergeL1 at h
  split at h
  · rename_i e cs e' cs'
    cases hb : Nat.beq e e' with
    | false => rw [hb] at h; cases h
    | true =>
      rw [hb, cond_true] at h
      split at h
      · rename_i r hr
        cases h
        rw [mergeVs_eq hr, Nat.eq_of_beq_eq_true hb]
        cases c <;> rfl
      · cases h
  · cases h

theorem memN_iff {n : Nat} : ∀ {l : List Nat}, memNat n l = true ↔ n ∈ l
  | [] => by simp [memNat]
  | x :: l => by
    simp only [memNat, Bool.or_eq_true, List.mem_cons, memN_iff (l := l)]
    constructor
    · rintro (h | h)
      · exact .inl (Nat.eq_of_beq_eq_true h)
      · exact .inr h
    · rintro (h | h)
      · exact .inl (by rw [h]; exact Nat.beq_refl _)
      · exact .inr h

theorem memN_false {n : Nat} {l : List Nat} (h : memNat n l = false) : n ∉ l := fun hm => by rw [memN_iff.2 hm] at h; cases h

def Keys {α : Type} (a b : List Nat) (l : List (Nat × α)) : Prop := ∀ t, memNat t a = false → memNat t b = false → look l t = none

theorem keysIn_spec {α : Type} {a b : List Nat} : ∀ {l : List (Nat × α)}, keysIn a b l = true → Keys a b l
  | [], _, _, _, _ => rfl
  | (u, x) :: l, h, t, ha, hb => by
    simp only [keysIn, Bool.and_eq_true, Bool.or_eq_true] at h
    have hne : t ≠ u := by
      rintro rfl
      rcases h.1 with h | h
      · rw [ha] at h; cases h
      · rw [hb] at h; cases h
    rw [look_cons_ne hne]
    exact keysIn_spec h.2 t ha hb

theorem mergeA_dom {α : Type} {g : Nat → Option α} {f : α → α → Option α} {A B : List (Nat × α)} : ∀ {l : List Nat} {r : List (Nat × α)}, mergeA g f A B l = some r →
    ∀ t, memNat t l = false → look r t = none
  | [], r, h, t, _ => by cases h; rfl
  | u :: l, r, h, t, ht => by
    have htu : t ≠ u := fun e => memN_false ht (by rw [e]; exact List.mem_cons_self ..)
    have htl : memNat t l = false := by
      cases hm : memNat t l with
      | false => rfl
      | true => exact absurd (List.mem_cons_of_mem _ (memN_iff.1 hm)) (memN_false ht)
    simp only [mergeA] at h
    split at h
    · cases h
    · rename_i r' hr'
      have ih := mergeA_dom hr' t htl
      split at h
      · cases h; exact ih
      · split at h
        · cases h; rw [look_cons_ne htu]; exact ih
        · cases h
      · split at h
        · split at h
          · cases h; rw [look_cons_ne htu]; exact ih
          · cases h
        · cases h
      · split at h
        · split at h
          · cases h; rw [look_cons_ne htu]; exact ih
          · cases h
        · cases h

theorem merge_keys {S : St} {ts ls dT dL : List Nat} : ∀ {tr : Tree MS} {r : Bool} {U : List (Nat × T)} {W : List (Nat × Loc)}, merge S ts ls dT dL tr = some (r, U, W) → Keys ts dT U ∧ Keys ls dL W
  | .leaf M, r, U, W, h => by
    simp only [merge] at h
    cases hk : keysIn ts dT M.U && keysIn ls dL M.W with
    | false => rw [hk] at h; cases h
    | true =>
      rw [hk] at h
      cases h
      rw [Bool.and_eq_true] at hk
      exact ⟨keysIn_spec hk.1, keysIn_spec hk.2⟩
  | .fail, _, _, _, h => by cases h
  | .req c x, r, U, W, h => by
    simp only [merge] at h
    split at h
    · rename_i r' U' W' h'
      cases h
      exact merge_keys h'
    · cases h
  | .br c x y, r, U, W, h => by
    simp only [merge] at h
    split at h
    · split at h
      · rename_i U' W' hU hW
        cases h
        exact ⟨fun t ht _ => mergeA_dom hU t ht, fun t ht _ => mergeA_dom hW t ht⟩
      · cases h
    · cases h

/-- The states agree on what is kept. -/
def agree (S : St) (dT dL : List Nat) (U : List (Nat × T)) (W : List (Nat × Loc)) (M : MS) : Prop :=
  (∀ t, memNat t dT = false → overG S.tm U t = overG S.tm M.U t) ∧ ∀ s, memNat s dL = false → overG S.lo W s = overG S.lo M.W s

theorem mergeR_eq (c r1 r2 : Bool) : mergeR c r1 r2 = if c then r1 else r2 := by cases c <;> cases r1 <;> cases r2 <;> rfl

theorem overG_none {α : Type} {g : Nat → Option α} {A : List (Nat × α)} {t : Nat} (h : look A t = none) : overG g A t = g t := by simp [overG, h]

theorem merge_run {S : St} {ts ls dT dL : List Nat} : ∀ {tr : Tree MS} {r : Bool} {U : List (Nat × T)} {W : List (Nat × Loc)}, merge S ts ls dT dL tr = some (r, U, W) → r = true → tr.run (agree S dT dL U W)
  | .leaf M, r, U, W, h, _ => by
    simp only [merge] at h
    cases hk : keysIn ts dT M.U && keysIn ls dL M.W with
    | false => rw [hk] at h; cases h
    | true => rw [hk] at h; cases h; exact ⟨fun _ _ => rfl, fun _ _ => rfl⟩
  | .fail, _, _, _, h, _ => by cases h
  | .req c x, r, U, W, h, hr => by
    simp only [merge] at h
    split at h
    · rename_i r' U' W' h'
      cases h
      rw [Bool.and_eq_true] at hr
      simp only [Tree.run, hr.1]
      exact merge_run h' hr.2
    · cases h
  | .br c x y, r, U, W, h, hr => by
    simp only [merge] at h
    split at h
    · rename_i r1 U1 W1 r2 U2 W2 h1 h2
      split at h
      · rename_i U' W' hU hW
        cases h
        rw [mergeR_eq] at hr
        have hu := mergeA_spec (c := c) (fun _ _ _ => mergeT1_eq) hU
        have hw := mergeA_spec (c := c) (fun _ _ _ => mergeL1_eq) hW
        have k1 := merge_keys h1
        have k2 := merge_keys h2
        have du := mergeA_dom hU
        have dw := mergeA_dom hW
        cases c with
        | true =>
          refine Tree.run_mono ?_ (merge_run (tr := x) h1 (by simpa using hr))
          rintro M ⟨ha, hb⟩
          refine ⟨fun t ht => ?_, fun s hs => ?_⟩
          · rw [← ha t ht]
            cases hm : memNat t ts with
            | true => simpa using hu t (memN_iff.1 hm)
            | false => rw [overG_none (du t hm), overG_none (k1.1 t hm ht)]
          · rw [← hb s hs]
            cases hm : memNat s ls with
            | true => simpa using hw s (memN_iff.1 hm)
            | false => rw [overG_none (dw s hm), overG_none (k1.2 s hm hs)]
        | false =>
          refine Tree.run_mono ?_ (merge_run (tr := y) h2 (by simpa using hr))
          rintro M ⟨ha, hb⟩
          refine ⟨fun t ht => ?_, fun s hs => ?_⟩
          · rw [← ha t ht]
            cases hm : memNat t ts with
            | true => simpa using hu t (memN_iff.1 hm)
            | false => rw [overG_none (du t hm), overG_none (k2.1 t hm ht)]
          · rw [← hb s hs]
            cases hm : memNat s ls with
            | true => simpa using hw s (memN_iff.1 hm)
            | false => rw [overG_none (dw s hm), overG_none (k2.2 s hm hs)]
      · cases h
    · cases h

theorem cutS_congr {dT dL : List Nat} {S S' : St} (h1 : ∀ t, memNat t dT = false → S.tm t = S'.tm t) (h2 : ∀ t, memNat t dL = false → S.lo t = S'.lo t) (h3 : S.hp = S'.hp) :
    cutS dT dL S = cutS dT dL S' := by
  unfold cutS
  rw [h3]
  congr 1
  · funext t
    cases hm : memNat t dT with
    | true => rfl
    | false => exact h1 t hm
  · funext t
    cases hm : memNat t dL with
    | true => rfl
    | false => exact h2 t hm

theorem mergeK_run {S : St} {ts ls dT dL : List Nat} {tr : Tree MS} {K : St → Prop} (h : mergeK ts ls dT dL tr S K) : tr.run fun M => K (cutS dT dL (M.st S)) := by
  unfold mergeK at h
  split at h
  · rename_i r U W hm
    obtain ⟨hr, hn⟩ := req_elim h
    refine Tree.run_mono ?_ (merge_run hm hr)
    rintro M ⟨ha, hb⟩
    have : cutS dT dL ⟨getU S U, getW S W, S.hp⟩ = cutS dT dL (M.st S) := by
      refine cutS_congr (fun t ht => ?_) (fun t ht => ?_) rfl
      · simp only [MS.st, getU_over]; exact ha t ht
      · simp only [MS.st, getW_over]; exact hb t ht
    rw [← this]
    exact hn
  · exact h.elim

theorem stepsM_run (hm : R.le R) {ops : List Oper} {ts ls dT dL : List Nat} {K : St → Prop} : ∀ (l : List Oper) {S : St},
    stepsM E R ann N ts ls dT dL ops l S K → stepsB E R ann N ops l S fun S' => K (cutS dT dL S')
  | [], S, h => h
  | o :: l, S, h => by
    unfold stepsM at h
    split at h
    · exact stepB_mono hm (fun S' => stepsM_run hm l) h
    · exact stepsT_run (K := fun S' => K (cutS dT dL S')) hm (o :: l) (M := ⟨[], [], []⟩) (mergeK_run h)

end
end Go.Am
