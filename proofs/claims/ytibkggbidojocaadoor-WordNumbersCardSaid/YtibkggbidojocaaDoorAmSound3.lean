/- The abstract machine is sound: bodies; calls. -/
import Derived.Scope
import Derived.Test.YtibkggbidojocaaDoorAmSched
namespace Go.Am
set_option linter.unusedSimpArgs false
set_option linter.unusedVariables false
set_option linter.unusedSectionVars false

section
variable {E : Env} {H0 : Heap} {ρ0 : Ren} {w0 : World} {ann : Ann} {N : Nat} {ρ lam : Ren} {S : St} {a : Act} {w : World} {R : Rec}

def exR : Ex → Exit
  | .normal => .normal
  | .exit id => .exit id
  | .ret => .ret

theorem region_sound (hR : Sound E R) (hm : E.P.follows .mixedOrders = true) {id : Nat} {ops : Array Oper} {draw : Bool} {Q : Exit → Act → World → Prop} {K : St → Prop} (hok : (!draw || drawOk E ann ops.toList) = true)
    (h : SR H0 ρ0 w0 ann N ρ lam S a w) (hk : stepsO E R ann N ops.toList ops.toList S K)
    (hq : ∀ S' ρ' lam' a' w', SR H0 ρ0 w0 ann N ρ' lam' S' a' w' → K S' → Q .normal a' w') : (Code.region id ops draw).wp E.P Q a w := by
  rw [stepsO_eq ops.toList 0 rfl] at hk
  rw [Array.length_toList, ← List.range_eq_range'] at hk
  cases draw with
  | false => exact wp_region (wpOps_sound hR _ h hk hq)
  | true =>
    refine wp_region_any hm ?_
    have htodo : todo ops.size (Array.replicate ops.size false) = List.range ops.size := by
      unfold todo
      rw [List.filter_eq_self]
      intro i hi
      simp [Array.getD, List.mem_range.1 hi]
    refine draw_sound hR (by simpa using hok) hq ops.size _ (by simp) ?_ (by rw [htodo]; simp) (by rw [htodo]; exact hk) (h.drew _)
    intro i o _ hi
    simp [Array.getD] at hi

theorem stepIB_eq {ops : Array Oper} : stepIB E R ann N ops.toList = stepI E R ann N ops := by
  funext i S K
  unfold stepIB stepI
  rw [Array.getElem?_toList]
  cases ops[i]? with
  | none => rfl
  | some o => exact stepB_eq

theorem regionB_sound (hR : Sound E R) (hm : E.P.follows .mixedOrders = true) {id : Nat} {ops : Array Oper} {draw : Bool} {Q : Exit → Act → World → Prop} {K : St → Prop}
    (h : SR H0 ρ0 w0 ann N ρ lam S a w) (hk : regionB E R ann N ops.toList draw S K)
    (hq : ∀ S' ρ' lam' a' w', SR H0 ρ0 w0 ann N ρ' lam' S' a' w' → K S' → Q .normal a' w') : (Code.region id ops draw).wp E.P Q a w := by
  unfold regionB at hk
  split at hk
  · rename_i hok
    rw [stepsB_eq] at hk
    exact region_sound hR hm hok h hk hq
  · rename_i hok
    obtain ⟨hed, hk⟩ := req_elim hk
    have hdr : draw = true := by
      cases draw with
      | true => rfl
      | false => simp at hok
    subst hdr
    rw [stepIB_eq] at hk
    refine wp_region_any hm ?_
    have htodo : todo ops.size (Array.replicate ops.size false) = List.range ops.size := by
      unfold todo
      rw [List.filter_eq_self]
      intro i hi
      simp [Array.getD, List.mem_range.1 hi]
    refine sched_sound hR hed hq ops.size _ (by simp) ?_ (by rw [htodo]; simp) (by rw [htodo]; rw [Array.length_toList] at hk; exact hk) (h.drew _)
    intro i o _ hi
    simp [Array.getD] at hi

theorem joinK_sound {kp : Option Keep} {A : (Ex → St → Prop) → Prop} {K : Ex → St → Prop} {X : Prop}
    (hj : joinK kp A K) (hA : ∀ K' : Ex → St → Prop, A K' → (∀ e S' ρ' lam' a' w', SR H0 ρ0 w0 ann N ρ' lam' S' a' w' → K' e S' → ∃ S'', SR H0 ρ0 w0 ann N ρ' lam' S'' a' w' ∧ K e S'') → X) : X := by
  unfold joinK at hj
  cases kp with
  | none => exact hA K hj fun e S' ρ' lam' a' w' h hk => ⟨S', h, hk⟩
  | some kp =>
    refine hA _ hj ?_
    intro e S' ρ' lam' a' w' h hk
    cases e with
    | normal =>
      obtain ⟨S1, h1, hk⟩ := normK_sound h hk
      exact openS_sound h1 hk
    | exit id => exact ⟨S', h, hk⟩
    | ret => exact ⟨S', h, hk⟩

theorem over_look {α : Type} {l : List (Nat × α)} {dr : List Nat} {g : Nat → Option α} {t : Nat} {x : α} (h : over l dr g t = some x) :
    look l t = some x ∨ (memNat t dr = false ∧ g t = some x) := by
  unfold over at h
  split at h
  · rename_i y hy; cases h; exact .inl hy
  · cases hm : memNat t dr with
    | true => rw [hm] at h; cases h
    | false => rw [hm] at h; exact .inr ⟨rfl, h⟩

theorem joinW_sound {ok : Keep → Bool} {kp : Option Keep} {S : St} {A : (Ex → St → Prop) → Prop} {K : Ex → St → Prop} {X : Prop}
    (hag : ∀ (kp : Keep) (K : Ex → St → Prop), ok kp = true → A K → A fun e S' => K e S' ∧ Agree kp.wT kp.wL S S')
    (hj : joinW ok kp S A K) (hA : ∀ K' : Ex → St → Prop, A K' → (∀ e S' ρ' lam' a' w', SR H0 ρ0 w0 ann N ρ' lam' S' a' w' → K' e S' → ∃ S'', SR H0 ρ0 w0 ann N ρ' lam' S'' a' w' ∧ K e S'') → X) : X := by
  unfold joinW at hj
  cases kp with
  | none => exact hA K hj fun e S' ρ' lam' a' w' h hk => ⟨S', h, hk⟩
  | some kp =>
    simp only [] at hj
    split at hj
    · obtain ⟨hok, hj⟩ := req_elim hj
      refine hA _ (hag kp _ hok hj) ?_
      rintro e S' ρ' lam' a' w' h ⟨hk, ha⟩
      cases e with
      | exit id => exact ⟨S', h, hk⟩
      | ret => exact ⟨S', h, hk⟩
      | normal =>
        have hk : normK (outs kp.outT) (outs kp.outL) S' fun S1 => req ((openT S1 kp.outT).1 && (openL S1 kp.outL).1)
            (K .normal ⟨over (openT S1 kp.outT).2 kp.wT S.tm, over (openL S1 kp.outL).2 kp.wL S.lo, S1.hp⟩) := hk
        unfold normK at hk
        split at hk
        · rename_i m l hm hl
          obtain ⟨hr, hk⟩ := req_elim hk
          rw [Bool.and_eq_true] at hr
          refine ⟨_, h.less (S' := ⟨over (openT ⟨look m, look l, S'.hp⟩ kp.outT).2 kp.wT S.tm, over (openL ⟨look m, look l, S'.hp⟩ kp.outL).2 kp.wL S.lo, S'.hp⟩) (fun t x hx => ?_) (fun t x hx => ?_) rfl, hk⟩
          · rcases over_look hx with hx | ⟨hn, hx⟩
            · exact normT_look hm (openT_look hr.1 hx)
            · rw [ha.1 t hn]; exact hx
          · rcases over_look hx with hx | ⟨hn, hx⟩
            · exact normL_look hl (openL_look hr.2 hx)
            · rw [ha.2 t hn]; exact hx
        · exact hk.elim
    · exact joinK_sound hj hA

theorem cutS_sr {S : St} {ρ lam : Ren} {a : Act} {w : World} {dT dL : List Nat} (h : SR H0 ρ0 w0 ann N ρ lam S a w) : SR H0 ρ0 w0 ann N ρ lam (cutS dT dL S) a w := by
  refine h.less (fun t x hx => ?_) (fun t x hx => ?_) rfl
  · simp only [cutS] at hx
    cases hm : memNat t dT with
    | true => rw [hm] at hx; cases hx
    | false => rw [hm] at hx; exact hx
  · simp only [cutS] at hx
    cases hm : memNat t dL with
    | true => rw [hm] at hx; cases hx
    | false => rw [hm] at hx; exact hx

theorem exec_sound {f : FuncId} {fn : Func} (hR : Sound E R) (hm : E.P.follows .mixedOrders = true) (hf : E.P.funcs[f]? = some fn) (hann : ann = E.ann f) (hN : N = fn.ntmps) :
    ∀ (c : Code) (n : Nat) (S : St) (K : Ex → St → Prop) (ρ lam : Ren) (a : Act) (w : World) (Q : Exit → Act → World → Prop), exec E R f ann N c n S K → SR H0 ρ0 w0 ann N ρ lam S a w →
      (∀ e S' ρ' lam' a' w', SR H0 ρ0 w0 ann N ρ' lam' S' a' w' → K e S' → Q (exR e) a' w') → c.wp E.P Q a w := by
  intro c
  induction c with
  | skip => intro n S K ρ lam a w Q hx h hq; exact wp_skip (hq .normal _ _ _ _ _ h hx)
  | seq x y ihx ihy =>
    intro n S K ρ lam a w Q hx h hq
    refine wp_seq (ihx n S _ ρ lam a w _ hx h ?_)
    intro e S' ρ' lam' a' w' h' hk
    cases e with
    | normal => exact ihy _ _ _ _ _ _ _ _ hk h' hq
    | exit id => exact hq (.exit id) _ _ _ _ _ h' hk
    | ret => exact hq .ret _ _ _ _ _ h' hk
  | cond c x y ihx ihy =>
    intro n S K ρ lam a w Q hx h hq
    simp only [exec] at hx
    split at hx
    · rename_i t ht
      have hb := (h.ev.tv ht).bool_eq
      refine joinW_sound (H0 := H0) (ρ0 := ρ0) (w0 := w0) (ann := ann) (N := N) ?_ hx ?_
      · intro kp K hok
        rw [Bool.and_eq_true] at hok
        exact br_mono (exec_agree hR.mono x _ _ _ hok.1) (exec_agree hR.mono y _ _ _ hok.2)
      intro K' hx hK
      have hq' : ∀ e S' ρ' lam' a' w', SR H0 ρ0 w0 ann N ρ' lam' S' a' w' → K' e S' → Q (exR e) a' w' := by
        intro e S' ρ' lam' a' w' h' hk
        obtain ⟨S'', h'', hk''⟩ := hK e S' ρ' lam' a' w' h' hk
        exact hq e _ _ _ _ _ h'' hk''
      rcases br_elim hx with ⟨rfl, hx⟩ | ⟨rfl, hx⟩
      · exact wp_cond_true hb (ihx _ _ _ _ _ _ _ _ hx h hq')
      · exact wp_cond_false hb (ihy _ _ _ _ _ _ _ _ hx h hq')
    · exact hx.elim
  | block id b ih =>
    intro n S K0 ρ lam a w Q hx h hq
    simp only [exec] at hx
    refine joinW_sound (H0 := H0) (ρ0 := ρ0) (w0 := w0) (ann := ann) (N := N) ?_ hx ?_
    · intro kp K hok hx
      refine exec_mono hR.mono b _ _ _ _ ?_ (exec_agree hR.mono b _ _ _ hok hx)
      rintro e S' ⟨hk, ha⟩
      cases e with
      | normal => exact ⟨hk, ha⟩
      | ret => exact ⟨hk, ha⟩
      | exit j => exact br_mono (fun h => ⟨h, ha⟩) (fun h => ⟨h, ha⟩) hk
    intro K hx hK
    have hq0 := hq
    have hq : ∀ e S' ρ' lam' a' w', SR H0 ρ0 w0 ann N ρ' lam' S' a' w' → K e S' → Q (exR e) a' w' := by
      intro e S' ρ' lam' a' w' h' hk
      obtain ⟨S'', h'', hk''⟩ := hK e S' ρ' lam' a' w' h' hk
      exact hq0 e _ _ _ _ _ h'' hk''
    refine wp_block (ih n S _ ρ lam a w _ hx h ?_)
    intro e S' ρ' lam' a' w' h' hk
    cases e with
    | normal => exact hq .normal _ _ _ _ _ h' hk
    | exit j =>
      simp only [exR, Exit.inBlock]
      rcases br_elim hk with ⟨hj, hk⟩ | ⟨hj, hk⟩
      · rw [if_pos (Nat.eq_of_beq_eq_true hj)]
        exact hq .normal _ _ _ _ _ h' hk
      · rw [if_neg (fun e => by rw [e, Nat.beq_refl] at hj; cases hj)]
        exact hq (.exit j) _ _ _ _ _ h' hk
    | ret => exact hq .ret _ _ _ _ _ h' hk
  | loop c ih =>
    intro n S K ρ lam a w Q hx h hq
    simp only [exec] at hx
    split at hx
    · rename_i kp hkp
      obtain ⟨S0, h0, hx⟩ := normK_sound h hx
      subst hann
      subst hN
      refine wp_of_in (hR.loop _ _ _ _ _ _ hx fn H0 ρ0 w0 ρ lam a w Q hf h0 ?_ ?_)
      · intro S' ρ' lam' a' w' h' hk
        obtain ⟨S'', h'', hk⟩ := openS_sound h' hk
        exact hq .ret _ _ _ _ _ h'' hk
      · intro id S' ρ' lam' a' w' h' hk
        obtain ⟨S'', h'', hk⟩ := exitsK_sound h' hk
        exact hq (.exit id) _ _ _ _ _ h'' hk
    · exact hx.elim
  | exit id => intro n S K ρ lam a w Q hx h hq; exact wp_exit (hq (.exit id) _ _ _ _ _ h hx)
  | ret => intro n S K ρ lam a w Q hx h hq; exact wp_ret (hq .ret _ _ _ _ _ h hx)
  | region id ops draw =>
    intro n S K ρ lam a w Q hx h hq
    simp only [exec] at hx
    have old : ∀ kp : Option Keep, joinW (fun kp => wOkAll E ann kp.wT kp.wL ops.toList) kp S (fun K => regionB E R ann N ops.toList draw S (K .normal)) K → (Code.region id ops draw).wp E.P Q a w := by
      intro kp hx
      refine joinW_sound (H0 := H0) (ρ0 := ρ0) (w0 := w0) (ann := ann) (N := N) ?_ hx ?_
      · intro kp K hok hx
        exact regionB_agree hR.mono hok hx
      intro K' hx hK
      refine regionB_sound hR hm h hx ?_
      intro S' ρ' lam' a' w' h' hk
      obtain ⟨S'', h'', hk''⟩ := hK .normal S' ρ' lam' a' w' h' hk
      exact hq .normal _ _ _ _ _ h'' hk''
    revert hx
    split
    · exact old none
    · rename_i kp _
      split
      · intro hx
        obtain ⟨hok, hx⟩ := req_elim hx
        have hx := stepsM_run hR.mono _ hx
        rw [stepsB_eq] at hx
        refine region_sound hR hm hok h hx ?_
        intro S' ρ' lam' a' w' h' hk
        exact hq .normal _ _ _ _ _ (cutS_sr h') hk
      · exact old (some kp)
  | rangeFunc => intro n S K ρ lam a w Q hx; exact hx.elim
  | scope b ih =>
    intro n S K ρ lam a w Q hx h hq
    simp only [exec] at hx
    refine wp_scope_straight (ih _ _ _ _ _ _ _ _ hx h ?_)
    intro e S' ρ' lam' a' w' h' hk
    have := hq e S' ρ' lam' a' w' h' hk
    cases e <;> exact this
  | label l =>
    intro n S K ρ lam a w Q hx h hq
    simp only [exec] at hx
    exact wp_label (hq .normal _ _ _ _ _ h hx)
  | goto => intro n S K ρ lam a w Q hx; exact hx.elim
  | refuse => intro n S K ρ lam a w Q hx; exact hx.elim

end
end Go.Am
