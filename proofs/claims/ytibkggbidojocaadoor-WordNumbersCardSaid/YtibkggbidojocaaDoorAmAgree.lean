/- What is written nowhere is as it was. -/
import Derived.Test.YtibkggbidojocaaDoorAmTree
namespace Go.Am
set_option linter.unusedSimpArgs false
set_option linter.unusedVariables false
set_option linter.unusedSectionVars false

section
variable {E : Env} {R : Rec} {ann : Ann} {N : Nat} {f : FuncId}

def Agree (wT wL : List Nat) (S S' : St) : Prop :=
  (∀ t, memNat t wT = false → S'.tm t = S.tm t) ∧ ∀ s, memNat s wL = false → S'.lo s = S.lo s

theorem Agree.refl (wT wL : List Nat) (S : St) : Agree wT wL S S := ⟨fun _ _ => rfl, fun _ _ => rfl⟩
theorem Agree.trans {wT wL : List Nat} {S S' S'' : St} (h : Agree wT wL S S') (k : Agree wT wL S' S'') : Agree wT wL S S'' :=
  ⟨fun t ht => (k.1 t ht).trans (h.1 t ht), fun t ht => (k.2 t ht).trans (h.2 t ht)⟩

theorem subN_mem : ∀ {l m : List Nat} {x : Nat}, subN l m = true → x ∈ l → x ∈ m
  | y :: l, m, x, h, hx => by
    simp only [subN, Bool.and_eq_true] at h
    rcases List.mem_cons.1 hx with rfl | hx
    · exact memN_iff.1 h.1
    · exact subN_mem h.2 hx

theorem subN_false {l m : List Nat} {x : Nat} (h : subN l m = true) (hx : memNat x m = false) : memNat x l = false := by
  cases hm : memNat x l with
  | false => rfl
  | true => exact absurd (subN_mem h (memN_iff.1 hm)) (memN_false hx)

variable {wT wL : List Nat}

theorem agree_setT {S : St} {d : Nat} {x : T} (h : memNat d wT = true) : Agree wT wL S (S.setT d x) := by
  refine ⟨fun t ht => ?_, fun _ _ => rfl⟩
  have : Nat.beq t d = false := by
    cases hb : Nat.beq t d with
    | false => rfl
    | true => rw [Nat.eq_of_beq_eq_true hb, h] at ht; cases ht
  simp [St.setT, this]

theorem agree_setL {S : St} {d : Nat} {x : Loc} (h : memNat d wL = true) : Agree wT wL S (S.setL d x) := by
  refine ⟨fun _ _ => rfl, fun t ht => ?_⟩
  have : Nat.beq t d = false := by
    cases hb : Nat.beq t d with
    | false => rfl
    | true => rw [Nat.eq_of_beq_eq_true hb, h] at ht; cases ht
  simp [St.setL, this]

theorem putK_agree {dst : Option Tmp} {x : T} {S : St} {K : St → Prop} (hd : subN dst.toList wT = true) (h : putK ann N dst x S K) : putK ann N dst x S fun S' => K S' ∧ Agree wT wL S S' := by
  cases dst with
  | none => exact ⟨h, .refl ..⟩
  | some d =>
    have hd' : memNat d wT = true := by simpa [subN] using hd
    refine req_mono ?_ h
    cases x with
    | v y => exact fun h => ⟨h, agree_setT hd'⟩
    | undef => exact fun h => ⟨h, agree_setT hd'⟩
    | lp s off =>
      simp only []
      cases look ann.base d with
      | none => exact id
      | some s' => cases hs : Nat.beq s s' <;> simp [hs]; exact fun h => ⟨h, agree_setT hd'⟩

theorem basedOn_mem {d s : Nat} : ∀ {l : List (Nat × Nat)} {t : Nat}, look l t = some s → s = d → t ∈ basedOn d l
  | (u, v) :: l, t, h, hs => by
    simp only [look] at h
    simp only [basedOn]
    cases hb : Nat.beq t u with
    | true =>
      rw [hb] at h
      cases h
      rw [hs, Nat.beq_refl, cond_true, Nat.eq_of_beq_eq_true hb]
      exact List.mem_cons_self ..
    | false =>
      rw [hb] at h
      have := basedOn_mem h hs
      cases Nat.beq v d with
      | true => exact List.mem_cons_of_mem _ this
      | false => exact this

theorem kill_agree {S : St} {d : Nat} (h : subN (basedOn d ann.base) wT = true) : Agree wT wL S (kill ann d S) := by
  refine ⟨fun t ht => ?_, fun _ _ => rfl⟩
  simp only [kill]
  split
  · rename_i s hs
    cases hb : Nat.beq s d with
    | false => rfl
    | true => exact absurd (subN_mem h (basedOn_mem hs (Nat.eq_of_beq_eq_true hb))) (memN_false ht)
  · rfl

theorem coreO_agree (hm : R.le R) {o : Oper} {S : St} {K : St → Prop} (hw : wOk1 E ann wT wL o = true) (h : coreO E R ann N o S K) :
    coreO E R ann N o S fun S' => K S' ∧ Agree wT wL S S' := by
  simp only [wOk1, Bool.and_eq_true] at hw
  obtain ⟨⟨hd, hk⟩, hl⟩ := hw
  unfold coreO at h ⊢
  cases hc : cls E ann o with
  | pure =>
    simp only [hc] at h ⊢
    split at h
    · exact Dec.run_mono (fun x => putK_agree hd) h
    · exact h
  | lload s =>
    simp only [hc] at h ⊢
    split at h
    · exact Dec.run_mono (fun x => putK_agree hd) h
    · exact h
  | lstore s =>
    simp only [hc] at h hl ⊢
    split at h
    · refine Dec.run_mono (fun x hx => ?_) h
      refine putK_mono ?_ (putK_agree (wT := wT) (wL := wL) hd hx)
      rintro S' ⟨h1, h2⟩
      exact ⟨h1, (agree_setL hl).trans h2⟩
    · exact h
  | lnew =>
    simp only [hc] at h hl ⊢
    split at h
    · rename_i d r L hdst _
      refine req_mono (fun hx => ?_) h
      have hd' : memNat d wL = true := by simpa [subN, hdst] using hl
      have hk' : subN (basedOn d ann.base) wT = true := by simpa [killed, hdst] using hk
      refine putK_mono ?_ (putK_agree (wT := wT) (wL := wL) (by simpa [hdst] using hd) hx)
      rintro S' ⟨h1, h2⟩
      exact ⟨h1, ((kill_agree hk').trans (agree_setL hd')).trans h2⟩
    · exact h
  | hread =>
    simp only [hc] at h ⊢
    split at h
    · exact Dec.run_mono (fun x => putK_agree hd) h
    · exact h
  | hwrite =>
    simp only [hc] at h ⊢
    refine hwriteOp_mono hm (fun x H' hx => ?_) h
    refine putK_mono ?_ (putK_agree (wT := wT) (wL := wL) hd hx)
    rintro S' ⟨h1, h2⟩
    exact ⟨h1, h2⟩

theorem stepO_agree (hm : R.le R) {ops : List Oper} {o : Oper} {S : St} {K : St → Prop} (hw : wOk1 E ann wT wL o = true) (h : stepO E R ann N ops o S K) :
    stepO E R ann N ops o S fun S' => K S' ∧ Agree wT wL S S' := by
  have hd : subN o.dst.toList wT = true := by
    simp only [wOk1, Bool.and_eq_true] at hw
    exact hw.1.1
  unfold stepO at h ⊢
  split at h
  · exact coreO_agree hm hw h
  · split at h
    · exact br_mono (coreO_agree hm hw) (putK_agree hd) h
    · exact putK_agree hd h
    · exact h

theorem stepsO_agree (hm : R.le R) {ops : List Oper} : ∀ (l : List Oper) {S : St} {K : St → Prop}, wOkAll E ann wT wL l = true → stepsO E R ann N ops l S K →
    stepsO E R ann N ops l S fun S' => K S' ∧ Agree wT wL S S'
  | [], S, K, _, h => ⟨h, .refl ..⟩
  | o :: l, S, K, hw, h => by
    simp only [wOkAll, Bool.and_eq_true] at hw
    refine stepO_mono hm ?_ (stepO_agree hm hw.1 h)
    rintro S' ⟨h1, h2⟩
    refine stepsO_mono hm l ?_ (stepsO_agree hm l hw.2 h1)
    rintro S'' ⟨h3, h4⟩
    exact ⟨h3, h2.trans h4⟩

theorem wOkAll_mem {l : List Oper} : wOkAll E ann wT wL l = true → ∀ o ∈ l, wOk1 E ann wT wL o = true := by
  induction l with
  | nil => intro _ p hp; cases hp
  | cons o l ih =>
    intro h p hp
    rw [wOkAll, Bool.and_eq_true] at h
    rcases List.mem_cons.1 hp with rfl | hp
    · exact h.1
    · exact ih h.2 p hp

theorem stepIB_mono2 (hm : R.le R) {ops : List Oper} {i : Nat} {S : St} {K K' : St → Prop} (h : ∀ S, K S → K' S) (hx : stepIB E R ann N ops i S K) : stepIB E R ann N ops i S K' := by
  unfold stepIB at hx ⊢
  split at hx
  · rw [stepB_eq] at hx ⊢
    exact stepO_mono hm h hx
  · exact hx

theorem stepIB_agree (hm : R.le R) {ops : List Oper} (hw : wOkAll E ann wT wL ops = true) {i : Nat} {S : St} {K : St → Prop} (h : stepIB E R ann N ops i S K) :
    stepIB E R ann N ops i S fun S' => K S' ∧ Agree wT wL S S' := by
  unfold stepIB at h ⊢
  split at h
  · rename_i o ho
    rw [stepB_eq] at h ⊢
    exact stepO_agree hm (wOkAll_mem hw o (List.mem_of_getElem? ho)) h
  · exact h

theorem schedK_agree (hm : R.le R) {ops : List Oper} (hw : wOkAll E ann wT wL ops = true) : ∀ (t : Sched) {S : St} {K : St → Prop}, schedK (stepIB E R ann N ops) t S K →
    schedK (stepIB E R ann N ops) t S fun S' => K S' ∧ Agree wT wL S S'
  | .nil, S, K, h => ⟨h, .refl ..⟩
  | .fail, S, K, h => h
  | .one i r, S, K, h => by
    have h : stepIB E R ann N ops i S (fun S' => schedK (stepIB E R ann N ops) r S' K) := h
    show stepIB E R ann N ops i S (fun S' => schedK (stepIB E R ann N ops) r S' _)
    refine stepIB_mono2 hm ?_ (stepIB_agree hm hw h)
    rintro S' ⟨h1, h2⟩
    refine schedK_mono (st := stepIB E R ann N ops) (st' := stepIB E R ann N ops) (fun i S K K' h hx => stepIB_mono2 hm h hx) r ?_ (schedK_agree hm hw r h1)
    rintro S'' ⟨h3, h4⟩
    exact ⟨h3, h2.trans h4⟩
  | .both a b, S, K, h => ⟨schedK_agree hm hw a h.1, schedK_agree hm hw b h.2⟩

theorem regionB_agree (hm : R.le R) {ops : List Oper} {draw : Bool} {S : St} {K : St → Prop} (hw : wOkAll E ann wT wL ops = true) (h : regionB E R ann N ops draw S K) :
    regionB E R ann N ops draw S fun S' => K S' ∧ Agree wT wL S S' := by
  unfold regionB at h ⊢
  revert h
  split
  · simp only [stepsB_eq]
    exact stepsO_agree hm _ hw
  · exact req_mono (schedK_agree hm hw _)

theorem cut_agree {S : St} {dT dL : List Nat} (h1 : subN dT wT = true) (h2 : subN dL wL = true) : Agree wT wL S (cutS dT dL S) :=
  ⟨fun t ht => by simp [cutS, subN_false h1 ht], fun t ht => by simp [cutS, subN_false h2 ht]⟩

theorem stepsM_agree (hm : R.le R) {ops : List Oper} {ts ls dT dL : List Nat} (h1 : subN ts wT = true) (h2 : subN ls wL = true) (h3 : subN dT wT = true) (h4 : subN dL wL = true) {K : St → Prop} :
    ∀ (l : List Oper) {S : St}, wOkAll E ann wT wL l = true → stepsM E R ann N ts ls dT dL ops l S K → stepsM E R ann N ts ls dT dL ops l S fun S' => K S' ∧ Agree wT wL S S'
  | [], S, _, h => ⟨h, cut_agree h3 h4⟩
  | o :: l, S, hw, h => by
    simp only [wOkAll, Bool.and_eq_true] at hw
    unfold stepsM at h ⊢
    split at h
    · rw [stepB_eq] at h ⊢
      refine stepO_mono hm ?_ (stepO_agree hm hw.1 h)
      rintro S' ⟨h5, h6⟩
      refine stepsM_mono hm ?_ l (stepsM_agree hm h1 h2 h3 h4 l hw.2 h5)
      rintro S'' ⟨h7, h8⟩
      exact ⟨h7, h6.trans h8⟩
    · unfold mergeK at h ⊢
      split at h
      · rename_i r U W hmg
        refine req_mono (fun hk => ⟨hk, ?_⟩) h
        obtain ⟨k1, k2⟩ := merge_keys hmg
        refine Agree.trans ?_ (cut_agree h3 h4)
        refine ⟨fun t ht => ?_, fun t ht => ?_⟩
        · change getU S U t = S.tm t
          rw [getU_over, overG_none (k1 t (subN_false h1 ht) (subN_false h3 ht))]
        · change getW S W t = S.lo t
          rw [getW_over, overG_none (k2 t (subN_false h2 ht) (subN_false h4 ht))]
      · exact h

theorem openT_keys {S : St} : ∀ {l : List (Nat × KT)} {t : Nat}, memNat t (outs l) = false → look (openT S l).2 t = none
  | [], _, _ => rfl
  | (u, k) :: l, t, h => by
    simp only [outs, memNat, Bool.or_eq_false_iff] at h
    simp only [openT, look, h.1, cond_false]
    exact openT_keys h.2

theorem openL_keys {S : St} : ∀ {l : List (Nat × TypeId × List Kind)} {t : Nat}, memNat t (outs l) = false → look (openL S l).2 t = none
  | [], _, _ => rfl
  | (u, e, ks) :: l, t, h => by
    simp only [outs, memNat, Bool.or_eq_false_iff] at h
    simp only [openL, look, h.1, cond_false]
    exact openL_keys h.2

theorem joinW_agree {ok : Keep → Bool} {kp : Option Keep} {S : St} {A : (Ex → St → Prop) → Prop} {K : Ex → St → Prop} (hj : wOkJ wT wL kp = true)
    (hA : ∀ K : Ex → St → Prop, A K → A fun e S' => K e S' ∧ Agree wT wL S S') (hm : ∀ K K' : Ex → St → Prop, (∀ e S, K e S → K' e S) → A K → A K')
    (h : joinW ok kp S A K) : joinW ok kp S A fun e S' => K e S' ∧ Agree wT wL S S' := by
  unfold joinW at h ⊢
  cases kp with
  | none => exact hA _ h
  | some kp =>
    simp only [wOkJ, wOkK, Bool.and_eq_true] at hj
    obtain ⟨hdl, ⟨⟨h1, h2⟩, h3⟩, h4⟩ := hj
    simp only [hdl] at h ⊢
    refine req_mono (fun h => ?_) h
    unfold joinD joinP at h ⊢
    refine hm _ _ ?_ (hA _ h)
    rintro e S' ⟨hk, ha⟩
    cases e with
    | exit id => exact ⟨hk, ha⟩
    | ret => exact ⟨hk, ha⟩
    | normal =>
      refine normK_mono (fun S1 hk => req_mono (fun hk => ⟨hk, ?_⟩) hk) hk
      refine ⟨fun t ht => ?_, fun t ht => ?_⟩
      · simp only [over, openT_keys (subN_false h3 ht), subN_false h1 ht, cond_false]
      · simp only [over, openL_keys (subN_false h4 ht), subN_false h2 ht, cond_false]

theorem exec_agree (hm : R.le R) : ∀ (c : Code) (n : Nat) (S : St) (K : Ex → St → Prop), wOk E ann wT wL c n = true → exec E R f ann N c n S K →
    exec E R f ann N c n S fun e S' => K e S' ∧ Agree wT wL S S' := by
  intro c
  induction c with
  | skip => intro n S K _ hx; exact ⟨hx, .refl ..⟩
  | exit id => intro n S K _ hx; exact ⟨hx, .refl ..⟩
  | ret => intro n S K _ hx; exact ⟨hx, .refl ..⟩
  | seq a b iha ihb =>
    intro n S K hw hx
    simp only [wOk, Bool.and_eq_true] at hw
    refine exec_mono hm a _ _ _ _ ?_ (iha n S _ hw.1 hx)
    rintro e S' ⟨hk, ha⟩
    cases e with
    | exit id => exact ⟨hk, ha⟩
    | ret => exact ⟨hk, ha⟩
    | normal =>
      refine exec_mono hm b _ _ _ _ ?_ (ihb _ S' _ hw.2 hk)
      rintro e S'' ⟨hk, hb⟩
      exact ⟨hk, ha.trans hb⟩
  | cond c x y ihx ihy =>
    intro n S K hw hx
    simp only [wOk, Bool.and_eq_true] at hw
    simp only [exec] at hx ⊢
    split at hx
    · refine joinW_agree hw.1 ?_ ?_ hx
      · intro K h
        exact br_mono (ihx _ _ _ hw.2.1) (ihy _ _ _ hw.2.2) h
      · intro K K' h
        exact br_mono (exec_mono hm x _ _ _ _ h) (exec_mono hm y _ _ _ _ h)
    · exact hx
  | block id b ih =>
    intro n S K hw hx
    simp only [wOk, Bool.and_eq_true] at hw
    simp only [exec] at hx ⊢
    refine joinW_agree hw.1 ?_ ?_ hx
    · intro K h
      refine exec_mono hm b _ _ _ _ ?_ (ih _ _ _ hw.2 h)
      rintro e S' ⟨hk, ha⟩
      cases e with
      | normal => exact ⟨hk, ha⟩
      | ret => exact ⟨hk, ha⟩
      | exit j => exact br_mono (fun h => ⟨h, ha⟩) (fun h => ⟨h, ha⟩) hk
    · intro K K' h
      refine exec_mono hm b _ _ _ _ ?_
      intro e S'
      cases e with
      | normal => exact h _ _
      | ret => exact h _ _
      | exit j => exact br_mono (h _ _) (h _ _)
  | region id ops draw =>
    intro n S K hw hx
    simp only [wOk, Bool.and_eq_true] at hw
    simp only [exec] at hx ⊢
    revert hx
    cases hkp : keepOf ann n with
    | none => exact regionB_agree hm hw.1
    | some kp =>
      simp only [hkp] at hw ⊢
      cases hmg : kp.mg with
      | true =>
        simp only [hmg, Bool.and_eq_true] at hw ⊢
        exact req_mono (stepsM_agree hm hw.2.1.1.1 hw.2.1.1.2 hw.2.1.2 hw.2.2 _ hw.1)
      | false =>
        simp only [hmg] at hw ⊢
        refine joinW_agree (by simp only [wOkJ]; exact hw.2) ?_ ?_
        · intro K h
          exact regionB_agree hm hw.1 h
        · intro K K' h
          exact regionB_mono hm (h _)
  | loop c ih => intro n S K hw; simp [wOk] at hw
  | rangeFunc => intro n S K hw; simp [wOk] at hw
  | scope b ih => intro n S K hw h; simp only [wOk] at hw; simp only [exec] at h ⊢; exact ih _ _ _ hw h
  | label => intro n S K hw h; simp only [exec] at h ⊢; exact ⟨h, .refl ..⟩
  | goto => intro n S K hw; simp [wOk] at hw
  | refuse => intro n S K hw; simp [wOk] at hw

end
end Go.Am
