/- The abstract machine's step keeps order; its least fixpoint is one; what it promises comes to some end. -/
import Derived.Test.YtibkggbidojocaaDoorAmExec
namespace Go.Am
set_option linter.unusedSimpArgs false
set_option linter.unusedVariables false
set_option linter.unusedSectionVars false

theorem br_mono {c : Bool} {X X' Y Y' : Prop} (hx : X → X') (hy : Y → Y') (h : br c X Y) : br c X' Y' := by
  cases c
  · exact hy h
  · exact hx h

theorem req_mono {c : Bool} {X X' : Prop} (hx : X → X') (h : req c X) : req c X' := by
  cases c
  · exact h
  · exact hx h

theorem req_elim {c : Bool} {X : Prop} (h : req c X) : c = true ∧ X := by
  cases c
  · exact h.elim
  · exact ⟨rfl, h⟩

theorem br_elim {c : Bool} {X Y : Prop} (h : br c X Y) : (c = true ∧ X) ∨ (c = false ∧ Y) := by
  cases c
  · exact .inr ⟨rfl, h⟩
  · exact .inl ⟨rfl, h⟩

theorem Dec.run_mono {α : Type} {d : Dec α} {K K' : α → Prop} (h : ∀ x, K x → K' x) (hd : d.run K) : d.run K' :=
  req_mono (br_mono (h _) (h _)) hd

theorem Dec.run_elim {α : Type} {d : Dec α} {K : α → Prop} (h : d.run K) : d.rq = true ∧ K (if d.c then d.x else d.y) := by
  obtain ⟨h1, h2⟩ := req_elim h
  refine ⟨h1, ?_⟩
  rcases br_elim h2 with ⟨hc, h⟩ | ⟨hc, h⟩ <;> simpa [hc] using h

section
variable {E : Env} {A B : Rec} {ann : Ann} {N : Nat} {f : FuncId}

theorem putK_mono {dst : Option Tmp} {x : T} {S : St} {K K' : St → Prop} (h : ∀ S, K S → K' S) (hp : putK ann N dst x S K) : putK ann N dst x S K' := by
  cases dst with
  | none => exact h _ hp
  | some d =>
    refine req_mono ?_ hp
    cases x with
    | v y => exact h _
    | undef => exact h _
    | lp s off =>
      simp only []
      cases look ann.base d with
      | none => exact id
      | some s' => cases hs : Nat.beq s s' <;> simp [hs]; exact h _

theorem anyN_mono {lo hi : Nat} {K K' : Nat → Prop} (h : ∀ c, K c → K' c) (ha : anyN lo hi K) : anyN lo hi K' := fun c h1 h2 => h _ (ha c h1 h2)

theorem appendOp_mono {ts : List TypeId} {args : List V} {H : Heap} {K K' : Option (Nat × Nat) → Nat → Nat → Heap → Prop} (h : ∀ q n c H', K q n c H' → K' q n c H')
    (ho : appendOp E ts args H K) : appendOp E ts args H K' := by
  unfold appendOp at ho ⊢
  split at ho
  · split at ho
    · split at ho
      · exact req_mono (br_mono (req_mono (h _ _ _ _)) (req_mono (anyN_mono fun c => h _ _ _ _))) ho
      · exact ho
    · exact ho
  · exact ho

theorem extCall_mono {g : FuncId} {args : List V} {H : Heap} {K K' : V → Heap → Prop} (h : ∀ v H', K v H' → K' v H')
    (ho : extCall E g args H K) : extCall E g args H K' := by
  unfold extCall at ho ⊢
  split at ho
  · rename_i x _
    exact x.mono _ _ _ _ h ho
  · exact ho

theorem callV_mono (hR : A.le B) {fv : V} {args : List V} {H : Heap} {K K' : V → Heap → Prop} (h : ∀ v H', K v H' → K' v H')
    (ho : callV E A fv args H K) : callV E B fv args H K' := by
  unfold callV at ho ⊢
  split at ho
  · split at ho
    · exact extCall_mono h ho
    · exact hR.call _ _ _ _ _ h ho
  · exact ho

theorem openReq_mono {rt : TypeId} {K K' : T → Heap → Prop} (h : ∀ x H', K x H' → K' x H') (v : V) (H' : Heap)
    (hv : match openV E rt v with | some (b, v') => req b (K (.v v') H') | none => False) :
    match openV E rt v with | some (b, v') => req b (K' (.v v') H') | none => False := by
  revert hv
  split
  · exact req_mono (h _ _)
  · exact id

theorem hwriteOp_mono (hR : A.le B) {o : Op} {rt : TypeId} {ev : Ev} {H : Heap} {K K' : T → Heap → Prop} (h : ∀ x H', K x H' → K' x H')
    (ho : hwriteOp E A o rt ev H K) : hwriteOp E B o rt ev H K' := by
  have simple : ∀ o' : Op, (match hsimpleOp E o' ev H with | some (r, x, H') => req r (K x H') | none => False) →
      (match hsimpleOp E o' ev H with | some (r, x, H') => req r (K' x H') | none => False) := by
    intro o' ho
    revert ho
    split
    · exact req_mono (h _ _)
    · exact id
  unfold hwriteOp at ho ⊢
  split at ho
  · split at ho
    · split at ho
      · exact h _ _ ho
      · exact ho
    · exact ho
  · split at ho
    · split at ho
      · exact req_mono (h _ _) ho
      · exact ho
    · exact ho
  · split at ho
    · split at ho
      · exact req_mono (h _ _) ho
      · exact ho
    · exact ho
  · split at ho
    · split at ho
      · exact callV_mono hR (openReq_mono h) ho
      · exact ho
    · exact appendOp_mono (fun _ _ _ _ => h _ _) ho
    · exact simple _ ho
  · split at ho
    · split at ho
      · split at ho
        · exact req_mono (anyN_mono fun c => h _ _) ho
        · exact ho
      · exact ho
    · exact simple _ ho
  · exact simple _ ho

theorem coreO_mono (hR : A.le B) {o : Oper} {S : St} {K K' : St → Prop} (h : ∀ S, K S → K' S) (ho : coreO E A ann N o S K) : coreO E B ann N o S K' := by
  unfold coreO at ho ⊢
  split at ho
  · split at ho
    · exact Dec.run_mono (fun x => putK_mono h) ho
    · exact ho
  · split at ho
    · exact Dec.run_mono (fun x => putK_mono h) ho
    · exact ho
  · split at ho
    · exact Dec.run_mono (fun x => putK_mono h) ho
    · exact ho
  · split at ho
    · exact req_mono (putK_mono h) ho
    · exact ho
  · split at ho
    · exact Dec.run_mono (fun x => putK_mono h) ho
    · exact ho
  · exact hwriteOp_mono hR (fun x H' => putK_mono h) ho

theorem stepO_mono (hR : A.le B) {ops : List Oper} {o : Oper} {S : St} {K K' : St → Prop} (h : ∀ S, K S → K' S)
    (ho : stepO E A ann N ops o S K) : stepO E B ann N ops o S K' := by
  unfold stepO at ho ⊢
  split at ho
  · exact coreO_mono hR h ho
  · split at ho
    · exact br_mono (coreO_mono hR h) (putK_mono h) ho
    · exact putK_mono h ho
    · exact ho

theorem stepsO_mono (hR : A.le B) {ops : List Oper} : ∀ (l : List Oper) {S : St} {K K' : St → Prop}, (∀ S, K S → K' S) →
    stepsO E A ann N ops l S K → stepsO E B ann N ops l S K'
  | [], _, _, _, h, ho => h _ ho
  | _ :: l, _, _, _, h, ho => stepO_mono hR (fun _ => stepsO_mono hR l h) ho

theorem setT_self {S : St} {s : Nat} {x : T} (h : S.tm s = some x) : S.setT s x = S := by
  have : (fun t => bif Nat.beq t s then some x else S.tm t) = S.tm := by
    funext t
    cases hb : Nat.beq t s
    · rfl
    · rw [Nat.eq_of_beq_eq_true hb, h]; rfl
  cases S
  simp only [St.setT, St.mk.injEq, and_true]
  exact this

theorem stepB_eq {ops : List Oper} {o : Oper} {S : St} {K : St → Prop} : stepB E A ann N ops o S K = stepO E A ann N ops o S K := by
  unfold stepB stepO
  cases o.guard with
  | none => rfl
  | some p =>
    obtain ⟨j, want⟩ := p
    simp only [slotOf, yieldedA]
    cases ops[j]? with
    | none => rfl
    | some q =>
      simp only []
      cases q.dst with
      | none => rfl
      | some s =>
        simp only []
        cases ht : S.tm s with
        | none => rfl
        | some t => cases t with
          | undef => rfl
          | lp s' off => rfl
          | v x => cases x with
            | bool b =>
              simp only [beqB_eq]
              by_cases hb : b = want
              · subst hb; simp only [beq_self_eq_true, br, setT_self ht]
              · have hw : (b == want) = false := by simpa using hb
                have hn : (!want) = b := by cases b <;> cases want <;> simp_all
                simp only [hw, br, hn, setT_self ht]
            | _ => rfl

theorem stepsB_eq {ops : List Oper} : ∀ (l : List Oper) {S : St} {K : St → Prop}, stepsB E A ann N ops l S K = stepsO E A ann N ops l S K
  | [], _, _ => rfl
  | o :: l, S, K => by
    simp only [stepsB, stepsO, stepB_eq]
    congr 1
    funext S'
    exact stepsB_eq l

theorem normK_mono {ts ls : List Nat} {S : St} {K K' : St → Prop} (h : ∀ S, K S → K' S) (hn : normK ts ls S K) : normK ts ls S K' := by
  unfold normK at hn ⊢
  split at hn
  · exact h _ hn
  · exact hn

theorem openS_mono {ts : List (Nat × KT)} {ls : List (Nat × TypeId × List Kind)} {S : St} {K K' : St → Prop} (h : ∀ S, K S → K' S) (hn : openS ts ls S K) : openS ts ls S K' :=
  req_mono (h _) hn

theorem exitsK_mono {kp : Keep} {K K' : Ex → St → Prop} (h : ∀ e S, K e S → K' e S) : ∀ (l : List Nat) (id : Nat) (S : St), exitsK kp K l id S → exitsK kp K' l id S
  | [], _, _, hn => hn
  | _ :: l, id, S, hn => br_mono (openS_mono (h _)) (exitsK_mono h l id S) hn

theorem joinK_mono {kp : Option Keep} {A A' : (Ex → St → Prop) → Prop} {K K' : Ex → St → Prop} (h : ∀ e S, K e S → K' e S)
    (hA : ∀ K K', (∀ e S, K e S → K' e S) → A K → A' K') (hj : joinK kp A K) : joinK kp A' K' := by
  unfold joinK at hj ⊢
  cases kp with
  | none => exact hA _ _ h hj
  | some kp =>
    refine hA _ _ ?_ hj
    intro e S
    cases e with
    | normal => exact normK_mono fun S => openS_mono (h _)
    | exit id => exact h _ _
    | ret => exact h _ _

theorem mergeK_mono {ts ls dT dL : List Nat} {tr : Tree MS} {S : St} {K K' : St → Prop} (h : ∀ S, K S → K' S) (hm : mergeK ts ls dT dL tr S K) : mergeK ts ls dT dL tr S K' := by
  unfold mergeK at hm ⊢
  split at hm
  · exact req_mono (h _) hm
  · exact hm

theorem stepsM_mono (hR : A.le B) {ops : List Oper} {ts ls dT dL : List Nat} {K K' : St → Prop} (h : ∀ S, K S → K' S) : ∀ (l : List Oper) {S : St},
    stepsM E A ann N ts ls dT dL ops l S K → stepsM E B ann N ts ls dT dL ops l S K'
  | [], S, hx => h _ hx
  | o :: l, S, hx => by
    unfold stepsM at hx ⊢
    split at hx
    · rw [stepB_eq] at hx ⊢
      exact stepO_mono hR (fun _ => stepsM_mono hR h l) hx
    · exact mergeK_mono h hx

theorem joinD_mono {kp : Keep} {S0 : St} {A A' : (Ex → St → Prop) → Prop} {K K' : Ex → St → Prop} (h : ∀ e S, K e S → K' e S)
    (hA : ∀ K K', (∀ e S, K e S → K' e S) → A K → A' K') (hj : joinD kp S0 A K) : joinD kp S0 A' K' := by
  unfold joinD at hj ⊢
  refine hA _ _ ?_ hj
  intro e S
  cases e with
  | normal => exact normK_mono fun S => req_mono (h _ _)
  | exit id => exact h _ _
  | ret => exact h _ _

theorem joinW_mono {ok : Keep → Bool} {kp : Option Keep} {S0 : St} {A A' : (Ex → St → Prop) → Prop} {K K' : Ex → St → Prop} (h : ∀ e S, K e S → K' e S)
    (hA : ∀ K K', (∀ e S, K e S → K' e S) → A K → A' K') (hj : joinW ok kp S0 A K) : joinW ok kp S0 A' K' := by
  unfold joinW at hj ⊢
  cases kp with
  | none => exact hA _ _ h hj
  | some kp =>
    simp only [] at hj ⊢
    split at hj
    · exact req_mono (joinD_mono h hA) hj
    · exact joinK_mono h hA hj

theorem schedK_mono {st st' : Nat → St → (St → Prop) → Prop} (hs : ∀ i S K K', (∀ S, K S → K' S) → st i S K → st' i S K') : ∀ (t : Sched) {S : St} {K K' : St → Prop}, (∀ S, K S → K' S) → schedK st t S K → schedK st' t S K'
  | .nil, S, K, K', h, hx => h _ hx
  | .fail, S, K, K', h, hx => hx
  | .one i r, S, K, K', h, hx => hs _ _ _ _ (fun S' hk => schedK_mono hs r h hk) hx
  | .both a b, S, K, K', h, hx => ⟨schedK_mono hs a h hx.1, schedK_mono hs b h hx.2⟩

theorem regionB_mono (hR : A.le B) {ops : List Oper} {draw : Bool} {S : St} {K K' : St → Prop} (h : ∀ S, K S → K' S) (hx : regionB E A ann N ops draw S K) : regionB E B ann N ops draw S K' := by
  unfold regionB at hx ⊢
  revert hx
  split
  · simp only [stepsB_eq]
    exact stepsO_mono hR _ h
  · refine req_mono (schedK_mono (fun i S K K' h hx => ?_) _ h)
    unfold stepIB at hx ⊢
    split at hx
    · rw [stepB_eq] at hx ⊢
      exact stepO_mono hR h hx
    · exact hx

theorem exec_mono (hR : A.le B) : ∀ (c : Code) (n : Nat) (S : St) (K K' : Ex → St → Prop), (∀ e S, K e S → K' e S) →
    exec E A f ann N c n S K → exec E B f ann N c n S K' := by
  intro c
  induction c with
  | skip => intro n S K K' h hx; exact h _ _ hx
  | seq a b iha ihb =>
    intro n S K K' h hx
    refine iha _ _ _ _ ?_ hx
    intro e S'
    cases e with
    | normal => exact ihb _ _ _ _ h
    | exit id => exact h _ _
    | ret => exact h _ _
  | cond c x y ihx ihy =>
    intro n S K K' h hx
    simp only [exec] at hx ⊢
    split at hx
    · exact joinW_mono h (fun K K' h => br_mono (ihx _ _ _ _ h) (ihy _ _ _ _ h)) hx
    · exact hx
  | block id b ih =>
    intro n S K K' h hx
    simp only [exec] at hx ⊢
    refine joinW_mono h ?_ hx
    intro K K' h hx
    refine ih _ _ _ _ ?_ hx
    intro e S'
    cases e with
    | normal => exact h _ _
    | exit j => exact br_mono (h _ _) (h _ _)
    | ret => exact h _ _
  | loop c ih =>
    intro n S K K' h hx
    simp only [exec] at hx ⊢
    split at hx
    · exact normK_mono (fun S0 => hR.loop _ _ _ _ _ _ _ _ (fun S' => openS_mono (h _)) (fun id S' => exitsK_mono h _ id S')) hx
    · exact hx
  | exit id => intro n S K K' h hx; exact h _ _ hx
  | ret => intro n S K K' h hx; exact h _ _ hx
  | region id ops draw =>
    intro n S K K' h hx
    simp only [exec] at hx ⊢
    revert hx
    split
    · exact regionB_mono hR (h _)
    · split
      · exact req_mono (stepsM_mono hR (h _) _)
      · exact joinW_mono h (fun K K' h => regionB_mono hR (h _))
  | rangeFunc => intro n S K K' h hx; exact hx
  | scope b ih => intro n S K K' h hx; simp only [exec] at hx ⊢; exact ih _ _ _ _ h hx
  | label => intro n S K K' h hx; simp only [exec] at hx ⊢; exact h _ _ hx
  | goto => intro n S K K' h hx; exact hx
  | refuse => intro n S K K' h hx; exact hx

theorem result1_mono {S : St} {r : ResultVar} {K K' : V → Prop} (h : ∀ v, K v → K' v) (hx : result1 E S r K) : result1 E S r K' := by
  unfold result1 at hx ⊢
  split at hx
  · split at hx
    · exact h _ hx
    · exact hx
  · split at hx
    · split at hx
      · split at hx
        · exact req_mono (h _) hx
        · exact hx
      · exact hx
    · split at hx
      · refine Dec.run_mono ?_ hx
        intro x
        cases x with
        | v y => exact h _
        | _ => exact id
      · exact hx

theorem resultsA_mono {S : St} : ∀ (l : List ResultVar) {K K' : List V → Prop}, (∀ v, K v → K' v) → resultsA E S l K → resultsA E S l K'
  | [], _, _, h, hx => h _ hx
  | _ :: l, _, _, h, hx => result1_mono (fun _ => resultsA_mono l fun _ => h _) hx

theorem retK_mono {fn : Func} {K K' : V → Heap → Prop} (h : ∀ v H, K v H → K' v H) {S : St} (hx : retK E fn K S) : retK E fn K' S := by
  refine resultsA_mono _ ?_ hx
  intro vs
  split
  · exact h _ _
  · exact h _ _

theorem F_mono (hR : A.le B) : (F E A).le (F E B) where
  call f args H K K' h hx := by
    simp only [F] at hx ⊢
    split at hx
    · split at hx
      · refine req_mono (exec_mono hR _ _ _ _ _ ?_) hx
        intro e S
        cases e with
        | normal => exact retK_mono h
        | exit id => exact fun h => h
        | ret => exact retK_mono h
      · exact hx
    · exact hx
  loop c f n S Kr Kr' Ke Ke' hr he hx := by
    simp only [F] at hx ⊢
    split at hx
    · refine exec_mono hR _ _ _ _ _ ?_ hx
      intro e S
      cases e with
      | normal => exact normK_mono fun S0 => hR.loop _ _ _ _ _ _ _ _ hr he
      | exit id => exact normK_mono (he id)
      | ret => exact normK_mono hr
    · exact hx

theorem Rec.le.trans {A B C : Rec} (h : A.le B) (k : B.le C) : A.le C :=
  ⟨fun f args H _ _ hk hx => k.call f args H _ _ hk (h.call f args H _ _ (fun _ _ => id) hx),
   fun c f n S _ _ _ _ hr he hx => k.loop c f n S _ _ _ _ hr he (h.loop c f n S _ _ _ _ (fun _ => id) (fun _ _ => id) hx)⟩

theorem Run_mono : (Run E).le (Run E) :=
  ⟨fun f args H _ _ hk hx R hm hp => hm.call f args H _ _ hk (hx R hm hp),
   fun c f n S _ _ _ _ hr he hx R hm hp => hm.loop c f n S _ _ _ _ hr he (hx R hm hp)⟩

theorem Run_le {R : Rec} (hm : R.le R) (hp : (F E R).le R) : (Run E).le R :=
  ⟨fun f args H _ _ hk hx => hm.call f args H _ _ hk (hx R hm hp),
   fun c f n S _ _ _ _ hr he hx => hm.loop c f n S _ _ _ _ hr he (hx R hm hp)⟩

theorem F_Run_le : (F E (Run E)).le (Run E) :=
  ⟨fun f args H _ _ hk hx R hm hp => hp.call f args H _ _ hk ((F_mono (Run_le hm hp)).call f args H _ _ (fun _ _ => id) hx),
   fun c f n S _ _ _ _ hr he hx R hm hp => hp.loop c f n S _ _ _ _ hr he ((F_mono (Run_le hm hp)).loop c f n S _ _ _ _ (fun _ => id) (fun _ _ => id) hx)⟩

theorem Run_le_F : (Run E).le (F E (Run E)) := Run_le (F_mono Run_mono) (F_mono F_Run_le)

theorem Run_call {args : List V} {H : Heap} {K : V → Heap → Prop} : (Run E).call f args H K = (F E (Run E)).call f args H K :=
  propext ⟨Run_le_F.call _ _ _ _ _ fun _ _ => id, F_Run_le.call _ _ _ _ _ fun _ _ => id⟩

theorem Run_loop {c : Code} {n : Nat} {S : St} {Kr : St → Prop} {Ke : Nat → St → Prop} : (Run E).loop c f n S Kr Ke = (F E (Run E)).loop c f n S Kr Ke :=
  propext ⟨Run_le_F.loop _ _ _ _ _ _ _ _ (fun _ => id) fun _ _ => id, F_Run_le.loop _ _ _ _ _ _ _ _ (fun _ => id) fun _ _ => id⟩

/-- What it asks can be met. -/
structure Strict (R : Rec) : Prop where
  call : ∀ f args H K, R.call f args H K → ∃ v H', K v H'
  loop : ∀ c f n S Kr Ke, R.loop c f n S Kr Ke → (∃ S', Kr S') ∨ ∃ id S', Ke id S'

theorem req_ex {c : Bool} {α : Type} {X : Prop} {K : α → Prop} (h : X → ∃ x, K x) (hx : req c X) : ∃ x, K x := h (req_elim hx).2

theorem putK_strict {dst : Option Tmp} {x : T} {S : St} {K : St → Prop} (hp : putK ann N dst x S K) : ∃ S', K S' := by
  cases dst with
  | none => exact ⟨_, hp⟩
  | some d =>
    have h := (req_elim hp).2
    cases x with
    | v y => exact ⟨_, h⟩
    | undef => exact ⟨_, h⟩
    | lp s off =>
      simp only [] at h
      cases hl : look ann.base d with
      | none => rw [hl] at h; exact h.elim
      | some s' =>
        rw [hl] at h
        cases hs : Nat.beq s s' <;> simp [hs] at h
        exact ⟨_, h⟩

theorem appendOp_strict {ts : List TypeId} {args : List V} {H : Heap} {K : Option (Nat × Nat) → Nat → Nat → Heap → Prop} (ho : appendOp E ts args H K) : ∃ q n c H', K q n c H' := by
  unfold appendOp at ho
  split at ho
  · rename_i t u p l cp x
    split at ho
    · rename_i el n by' z _
      split at ho
      · rename_i r m ok cs _
        rcases br_elim (req_elim ho).2 with ⟨_, h⟩ | ⟨_, h⟩
        · exact ⟨_, _, _, _, (req_elim h).2⟩
        · obtain ⟨hr, h⟩ := req_elim h
          simp only [Bool.and_eq_true] at hr
          have hb := Nat.le_of_ble_eq_true hr.2.2
          refine ⟨_, _, _, _, h _ (Nat.le_refl _) ?_⟩
          have : l + m ≤ (l + m) * (by' + 1) := Nat.le_mul_of_pos_right _ (by omega)
          omega
      · exact ho.elim
    · exact ho.elim
  · exact ho.elim

theorem callV_strict (hR : Strict A) {fv : V} {args : List V} {H : Heap} {K : V → Heap → Prop} (ho : callV E A fv args H K) : ∃ v H', K v H' := by
  unfold callV at ho
  split at ho
  · split at ho
    · unfold extCall at ho
      split at ho
      · rename_i x _
        exact x.strict _ _ _ ho
      · exact ho.elim
    · exact hR.call _ _ _ _ ho
  · exact ho.elim

theorem openReq_strict {rt : TypeId} {K : T → Heap → Prop} (v : V) (H' : Heap)
    (hv : match openV E rt v with | some (b, v') => req b (K (.v v') H') | none => False) : ∃ x H', K x H' := by
  revert hv
  split
  · exact fun hv => ⟨_, _, (req_elim hv).2⟩
  · exact fun hv => hv.elim

theorem hwriteOp_strict (hR : Strict A) {o : Op} {rt : TypeId} {ev : Ev} {H : Heap} {K : T → Heap → Prop} (ho : hwriteOp E A o rt ev H K) : ∃ x H', K x H' := by
  have simple : ∀ o' : Op, (match hsimpleOp E o' ev H with | some (r, x, H') => req r (K x H') | none => False) → ∃ x H', K x H' := by
    intro o' ho
    revert ho
    split
    · exact fun ho => ⟨_, _, (req_elim ho).2⟩
    · exact fun ho => ho.elim
  unfold hwriteOp at ho
  split at ho
  · split at ho
    · split at ho
      · exact ⟨_, _, ho⟩
      · exact ho.elim
    · exact ho.elim
  · split at ho
    · split at ho
      · exact ⟨_, _, (req_elim ho).2⟩
      · exact ho.elim
    · exact ho.elim
  · split at ho
    · split at ho
      · exact ⟨_, _, (req_elim ho).2⟩
      · exact ho.elim
    · exact ho.elim
  · split at ho
    · split at ho
      · obtain ⟨v, H', hv⟩ := callV_strict hR ho
        exact openReq_strict v H' hv
      · exact ho.elim
    · obtain ⟨q, n, c, H', hk⟩ := appendOp_strict ho
      exact ⟨_, _, hk⟩
    · exact simple _ ho
  · split at ho
    · split at ho
      · split at ho
        · obtain ⟨hr, h⟩ := req_elim ho
          have hb := Nat.le_of_ble_eq_true hr
          exact ⟨_, _, h _ (Nat.le_refl _) (by omega)⟩
        · exact ho.elim
      · exact ho.elim
    · exact simple _ ho
  · exact simple _ ho

theorem coreO_strict (hR : Strict A) {o : Oper} {S : St} {K : St → Prop} (ho : coreO E A ann N o S K) : ∃ S', K S' := by
  unfold coreO at ho
  split at ho
  · split at ho
    · exact putK_strict (Dec.run_elim ho).2
    · exact ho.elim
  · split at ho
    · exact putK_strict (Dec.run_elim ho).2
    · exact ho.elim
  · split at ho
    · exact putK_strict (Dec.run_elim ho).2
    · exact ho.elim
  · split at ho
    · exact putK_strict (req_elim ho).2
    · exact ho.elim
  · split at ho
    · exact putK_strict (Dec.run_elim ho).2
    · exact ho.elim
  · obtain ⟨x, H', h⟩ := hwriteOp_strict hR ho
    exact putK_strict h

theorem stepO_strict (hR : Strict A) {ops : List Oper} {o : Oper} {S : St} {K : St → Prop} (ho : stepO E A ann N ops o S K) : ∃ S', K S' := by
  unfold stepO at ho
  split at ho
  · exact coreO_strict hR ho
  · split at ho
    · rcases br_elim ho with ⟨_, h⟩ | ⟨_, h⟩
      · exact coreO_strict hR h
      · exact putK_strict h
    · exact putK_strict ho
    · exact ho.elim

theorem stepsO_strict (hR : Strict A) {ops : List Oper} : ∀ (l : List Oper) {S : St} {K : St → Prop}, stepsO E A ann N ops l S K → ∃ S', K S'
  | [], _, _, ho => ⟨_, ho⟩
  | _ :: l, _, _, ho => let ⟨_, h⟩ := stepO_strict hR ho; stepsO_strict hR l h

theorem normK_strict {ts ls : List Nat} {S : St} {K : St → Prop} (h : normK ts ls S K) : ∃ S', K S' := by
  unfold normK at h
  split at h
  · exact ⟨_, h⟩
  · exact h.elim

theorem exitsK_strict {kp : Keep} {K : Ex → St → Prop} : ∀ (l : List Nat) (id : Nat) (S : St), exitsK kp K l id S → ∃ e S', K e S'
  | [], _, _, h => h.elim
  | _ :: l, id, S, h => by
    rcases br_elim h with ⟨_, h⟩ | ⟨_, h⟩
    · exact ⟨_, _, (req_elim h).2⟩
    · exact exitsK_strict l id S h

theorem joinK_strict {kp : Option Keep} {Q : (Ex → St → Prop) → Prop} {K : Ex → St → Prop} (hQ : ∀ K, Q K → ∃ e S, K e S) (h : joinK kp Q K) : ∃ e S, K e S := by
  unfold joinK at h
  cases kp with
  | none => exact hQ _ h
  | some kp =>
    obtain ⟨e, S, h⟩ := hQ _ h
    cases e with
    | normal => obtain ⟨S', h⟩ := normK_strict h; exact ⟨_, _, (req_elim h).2⟩
    | exit id => exact ⟨_, _, h⟩
    | ret => exact ⟨_, _, h⟩

theorem joinW_strict {ok : Keep → Bool} {kp : Option Keep} {S0 : St} {Q : (Ex → St → Prop) → Prop} {K : Ex → St → Prop} (hQ : ∀ K, Q K → ∃ e S, K e S) (h : joinW ok kp S0 Q K) : ∃ e S, K e S := by
  unfold joinW at h
  cases kp with
  | none => exact hQ _ h
  | some kp =>
    simp only [] at h
    split at h
    · obtain ⟨e, S, h⟩ := hQ _ (req_elim h).2
      cases e with
      | normal => obtain ⟨S', h⟩ := normK_strict h; exact ⟨_, _, (req_elim h).2⟩
      | exit id => exact ⟨_, _, h⟩
      | ret => exact ⟨_, _, h⟩
    · exact joinK_strict hQ h

theorem stepsM_strict (hR : Strict A) {ops : List Oper} {ts ls dT dL : List Nat} {K : St → Prop} : ∀ (l : List Oper) {S : St},
    stepsM E A ann N ts ls dT dL ops l S K → ∃ S', K S'
  | [], S, hx => ⟨_, hx⟩
  | o :: l, S, hx => by
    unfold stepsM at hx
    split at hx
    · rw [stepB_eq] at hx
      obtain ⟨S', h⟩ := stepO_strict hR hx
      exact stepsM_strict hR l h
    · unfold mergeK at hx
      split at hx
      · exact ⟨_, (req_elim hx).2⟩
      · exact hx.elim

theorem schedK_strict {st : Nat → St → (St → Prop) → Prop} (hs : ∀ i S K, st i S K → ∃ S', K S') : ∀ (t : Sched) {S : St} {K : St → Prop}, schedK st t S K → ∃ S', K S'
  | .nil, S, K, hx => ⟨_, hx⟩
  | .fail, S, K, hx => hx.elim
  | .one i r, S, K, hx => by
    obtain ⟨S', h⟩ := hs _ _ _ hx
    exact schedK_strict hs r h
  | .both a b, S, K, hx => schedK_strict hs a hx.1

theorem regionB_strict (hR : Strict A) {ops : List Oper} {draw : Bool} {S : St} {K : St → Prop} (hx : regionB E A ann N ops draw S K) : ∃ S', K S' := by
  unfold regionB at hx
  revert hx
  split
  · rw [stepsB_eq]
    exact stepsO_strict hR _
  · intro hx
    refine schedK_strict (fun i S K h => ?_) _ (req_elim hx).2
    unfold stepIB at h
    split at h
    · rw [stepB_eq] at h
      exact stepO_strict hR h
    · exact h.elim

theorem exec_strict (hR : Strict A) : ∀ (c : Code) (n : Nat) (S : St) (K : Ex → St → Prop), exec E A f ann N c n S K → ∃ e S', K e S' := by
  intro c
  induction c with
  | skip => intro n S K hx; exact ⟨_, _, hx⟩
  | seq a b iha ihb =>
    intro n S K hx
    obtain ⟨e, S', h⟩ := iha _ _ _ hx
    cases e with
    | normal => exact ihb _ _ _ h
    | exit id => exact ⟨_, _, h⟩
    | ret => exact ⟨_, _, h⟩
  | cond c x y ihx ihy =>
    intro n S K hx
    simp only [exec] at hx
    split at hx
    · refine joinW_strict ?_ hx
      intro K h
      rcases br_elim h with ⟨_, h⟩ | ⟨_, h⟩
      · exact ihx _ _ _ h
      · exact ihy _ _ _ h
    · exact hx.elim
  | block id b ih =>
    intro n S K hx
    simp only [exec] at hx
    refine joinW_strict ?_ hx
    intro K hx
    obtain ⟨e, S', h⟩ := ih _ _ _ hx
    cases e with
    | normal => exact ⟨_, _, h⟩
    | exit j => rcases br_elim h with ⟨_, h⟩ | ⟨_, h⟩ <;> exact ⟨_, _, h⟩
    | ret => exact ⟨_, _, h⟩
  | loop c ih =>
    intro n S K hx
    simp only [exec] at hx
    split at hx
    · obtain ⟨S0, h⟩ := normK_strict hx
      rcases hR.loop _ _ _ _ _ _ h with ⟨S', h⟩ | ⟨id, S', h⟩
      · exact ⟨_, _, (req_elim h).2⟩
      · exact exitsK_strict _ _ _ h
    · exact hx.elim
  | exit id => intro n S K hx; exact ⟨_, _, hx⟩
  | ret => intro n S K hx; exact ⟨_, _, hx⟩
  | region id ops draw =>
    intro n S K hx
    simp only [exec] at hx
    revert hx
    split
    · intro hx
      obtain ⟨S', h⟩ := regionB_strict hR hx
      exact ⟨_, _, h⟩
    · split
      · intro hx
        obtain ⟨S', h⟩ := stepsM_strict hR _ (req_elim hx).2
        exact ⟨_, _, h⟩
      · intro hx
        refine joinW_strict ?_ hx
        intro K h
        obtain ⟨S', h⟩ := regionB_strict hR h
        exact ⟨_, _, h⟩
  | rangeFunc => intro n S K hx; exact hx.elim
  | scope b ih => intro n S K hx; simp only [exec] at hx; exact ih _ _ _ hx
  | label => intro n S K hx; simp only [exec] at hx; exact ⟨_, _, hx⟩
  | goto => intro n S K hx; exact hx.elim
  | refuse => intro n S K hx; exact hx.elim

theorem result1_strict {S : St} {r : ResultVar} {K : V → Prop} (hx : result1 E S r K) : ∃ v, K v := by
  unfold result1 at hx
  split at hx
  · split at hx
    · exact ⟨_, hx⟩
    · exact hx.elim
  · split at hx
    · split at hx
      · split at hx
        · exact ⟨_, (req_elim hx).2⟩
        · exact hx.elim
      · exact hx.elim
    · split at hx
      · have h := (Dec.run_elim hx).2
        revert h
        split
        · exact fun h => ⟨_, h⟩
        · exact fun h => h.elim
      · exact hx.elim

theorem resultsA_strict {S : St} : ∀ (l : List ResultVar) {K : List V → Prop}, resultsA E S l K → ∃ v, K v
  | [], _, hx => ⟨_, hx⟩
  | _ :: l, _, hx => let ⟨_, h⟩ := result1_strict hx; let ⟨_, h⟩ := resultsA_strict l h; ⟨_, h⟩

theorem retK_strict {fn : Func} {K : V → Heap → Prop} {S : St} (hx : retK E fn K S) : ∃ v H', K v H' := by
  obtain ⟨vs, h⟩ := resultsA_strict _ hx
  revert h
  split
  · exact fun h => ⟨_, _, h⟩
  · exact fun h => ⟨_, _, h⟩

theorem F_strict (hR : Strict A) : Strict (F E A) where
  call f args H K hx := by
    simp only [F] at hx
    split at hx
    · split at hx
      · obtain ⟨e, S, h⟩ := exec_strict hR _ _ _ _ (req_elim hx).2
        cases e with
        | normal => exact retK_strict h
        | exit id => exact h.elim
        | ret => exact retK_strict h
      · exact hx.elim
    · exact hx.elim
  loop c f n S Kr Ke hx := by
    simp only [F] at hx
    split at hx
    · obtain ⟨e, S, h⟩ := exec_strict hR _ _ _ _ hx
      cases e with
      | normal => obtain ⟨S', h⟩ := normK_strict h; exact hR.loop _ _ _ _ _ _ h
      | exit id => obtain ⟨S', h⟩ := normK_strict h; exact .inr ⟨_, _, h⟩
      | ret => obtain ⟨S', h⟩ := normK_strict h; exact .inl ⟨_, h⟩
    · exact hx.elim

/-- The loosest that asks no more than what can be met. -/
def Loose : Rec where
  call _ _ _ K := ∃ v H', K v H'
  loop _ _ _ _ Kr Ke := (∃ S', Kr S') ∨ ∃ id S', Ke id S'

theorem Loose_strict : Strict Loose := ⟨fun _ _ _ _ h => h, fun _ _ _ _ _ _ h => h⟩

theorem Loose_mono : Loose.le Loose :=
  ⟨fun _ _ _ _ _ h ⟨v, H', hk⟩ => ⟨v, H', h _ _ hk⟩,
   fun _ _ _ _ _ _ _ _ hr he h => h.imp (fun ⟨S', h⟩ => ⟨S', hr _ h⟩) fun ⟨id, S', h⟩ => ⟨id, S', he _ _ h⟩⟩

theorem Run_strict : Strict (Run E) := by
  have h : (Run E).le Loose := Run_le Loose_mono
    ⟨fun f args H K K' hk hx => Loose_mono.call f args H _ _ hk ((F_strict Loose_strict).call f args H K hx),
     fun c f n S Kr Kr' Ke Ke' hr he hx => Loose_mono.loop c f n S _ _ _ _ hr he ((F_strict Loose_strict).loop c f n S Kr Ke hx)⟩
  exact ⟨fun f args H K hx => h.call f args H _ _ (fun _ _ => id) hx, fun c f n S Kr Ke hx => h.loop c f n S _ _ _ _ (fun _ => id) (fun _ _ => id) hx⟩

end
end Go.Am
