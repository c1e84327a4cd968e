/- The abstract machine is sound: regions that draw their order; bodies; calls. -/
import Derived.Test.YtmoopebmajefkaaAmSound2
import Derived.Test.YtmoopebmajefkaaAmAgree
namespace Go.Am
set_option linter.unusedSimpArgs false
set_option linter.unusedVariables false
set_option linter.unusedSectionVars false

section
variable {E : Env} {H0 : Heap} {ρ0 : Ren} {w0 : World} {ann : Ann} {N : Nat} {ρ lam : Ren} {S : St} {a : Act} {w : World} {R : Rec}

def Closed (ops : Array Oper) (listed : Array Bool) : Prop :=
  ∀ i o, ops[i]? = some o → listed.getD i false = true → ∀ e ∈ o.after.toList, Region.binds .any e = true → listed.getD e.on false = true

theorem befores_listed {ops : Array Oper} {listed : Array Bool} (hcl : Closed ops listed) (hed : edgesOk ops.toList 0 = true) : ∀ (i : Nat) (o : Oper) (b : List Nat), ops[i]? = some o →
    (befores ops.toList [])[i]? = some b → (∀ e ∈ o.after.toList, Region.binds .any e = true → listed.getD e.on false = true) → ∀ j ∈ b, listed.getD j false = true := by
  intro i
  induction i using Nat.strongRecOn with
  | _ i ih =>
    intro o b ho hb hl j hj
    rcases befores_spec ops.toList [] i b hb with ⟨h, _⟩ | ⟨q, h1, _, h3⟩
    · simp at h
    · have hq : q = o := by simp only [List.length_nil, Nat.sub_zero] at h1; rw [Array.getElem?_toList, ho] at h1; exact (Option.some.inj h1).symm
      subst hq
      obtain ⟨e, he, hbn, hj⟩ := h3 j hj
      rcases hj with rfl | ⟨hlt, b', hb', hj⟩
      · exact hl e he hbn
      · have hon := hl e he hbn
        have hin : e.on < ops.size := by
          rcases Nat.lt_or_ge e.on ops.size with h | h
          · exact h
          · have := (Array.getElem?_eq_some_iff.1 ho).1; omega
        exact ih e.on hlt ops[e.on] b' (Array.getElem?_eq_getElem hin) hb' (hcl e.on _ (Array.getElem?_eq_getElem hin) hon) j hj

theorem getD_bool {listed : Array Bool} {i : Nat} (h : i < listed.size) : listed.getD i true = listed.getD i false := by simp [Array.getD, h]

theorem draw_sound (hR : Sound E R) {ops : Array Oper} {Q : Exit → Act → World → Prop} {K : St → Prop} (hok : drawOk E ann ops.toList = true)
    (hq : ∀ S' ρ' lam' a' w', SR H0 ρ0 w0 ann N ρ' lam' S' a' w' → K S' → Q .normal a' w') :
    ∀ (fuel : Nat) (listed : Array Bool) {S : St} {ρ lam : Ren} {a : Act} {w : World}, listed.size = ops.size → Closed ops listed → (todo ops.size listed).length ≤ fuel →
      stepsI E R ann N ops (todo ops.size listed) S K → SR H0 ρ0 w0 ann N ρ lam S a w → wpAny E.P .any ops Q fuel listed a w := by
  rw [drawOk, Bool.and_eq_true] at hok
  obtain ⟨hed, hdr⟩ := hok
  have hin : ∀ {listed : Array Bool} {i : Nat}, listed.size = ops.size → i ∈ Region.ready .any ops listed → i < ops.size ∧ listed.getD i false = false := by
    intro listed i hs hi
    obtain ⟨h0, o, ho, _⟩ := mem_ready.1 hi
    have hlt := (Array.getElem?_eq_some_iff.1 ho).1
    exact ⟨hlt, by rw [← getD_bool (by omega)]; exact h0⟩
  have hmem : ∀ {listed : Array Bool} {i : Nat}, i < ops.size → listed.getD i false = false → i ∈ todo ops.size listed := by
    intro listed i h1 h2
    unfold todo
    rw [List.mem_filter, List.mem_range]
    exact ⟨h1, by rw [h2]; rfl⟩
  intro fuel
  induction fuel with
  | zero =>
    intro listed S ρ lam a w hs hcl hlen hk h
    have hnil : todo ops.size listed = [] := List.eq_nil_of_length_eq_zero (by omega)
    rw [hnil] at hk
    refine ⟨?_, hq _ _ _ _ _ h hk⟩
    cases hr : Region.ready .any ops listed with
    | nil => rfl
    | cons i l =>
      obtain ⟨h1, h2⟩ := hin hs (hr ▸ List.mem_cons_self .. : i ∈ Region.ready .any ops listed)
      have := hmem h1 h2
      rw [hnil] at this
      cases this
  | succ fuel ih =>
    intro listed S ρ lam a w hs hcl hlen hk h
    refine ⟨fun hnone => ?_, fun i hi => ?_⟩
    · have hall : ∀ i, i < ops.size → listed.getD i false = true := by
        intro i
        induction i using Nat.strongRecOn with
        | _ i ihi =>
          intro hi
          cases hl : listed.getD i false
          · exfalso
            have : i ∈ Region.ready .any ops listed := by
              refine mem_ready.2 ⟨by rw [getD_bool (by omega)]; exact hl, ops[i], Array.getElem?_eq_getElem hi, fun e he hb => ?_⟩
              have hlt := edgesOk_spec hed i ops[i] (by rw [Array.getElem?_toList, Array.getElem?_eq_getElem hi]) e (Array.mem_toList_iff.2 he) hb
              exact ihi e.on (by omega) (by omega)
            rw [hnone] at this
            cases this
          · rfl
      have hnil : todo ops.size listed = [] := by
        unfold todo
        rw [List.filter_eq_nil_iff]
        intro i hi
        rw [hall i (List.mem_range.1 hi)]
        simp
      rw [hnil] at hk
      exact hq _ _ _ _ _ h hk
    · obtain ⟨h1, h2⟩ := hin hs hi
      obtain ⟨_, o, ho, hedges⟩ := mem_ready.1 hi
      have hcl' : Closed ops (listed.setIfInBounds i true) := by
        intro j p hp hj e he hb
        by_cases hji : i = j
        · subst hji
          rw [ho] at hp
          cases hp
          exact getD_set_true (hedges e (Array.mem_toList_iff.1 he) hb)
        · rw [getD_set_ne false hji] at hj
          exact getD_set_true (hcl j p hp hj e he hb)
      obtain ⟨pre, post, e1, e2, h3, h4⟩ := filter_split (p := fun j => !listed.getD j false) (q := fun j => !(listed.setIfInBounds i true).getD j false) (i := i)
        (fun j hj => by rw [getD_set_ne false (fun e => hj e.symm)]) (by simp only [h2]; rfl) (by simp [Array.getD, hs, h1]) (List.range ops.size) (List.mem_range.2 h1) List.nodup_range
      have hk' : stepsI E R ann N ops (pre ++ i :: post) S K := by
        have : todo ops.size listed = pre ++ i :: post := e1
        rw [← this]; exact hk
      have hstep := stepsI_first hR ho pre post (by
        intro j hj p hp
        obtain ⟨hj1, hj2, hj3⟩ := h3 j hj
        have hlt := h4 List.pairwise_lt_range j hj
        have hf : (ops.toList.map (foot E ann ops.toList))[i]? = some (foot E ann ops.toList o) := by rw [List.getElem?_map, Array.getElem?_toList, ho]; rfl
        have hd1 := drawOkAll_spec hdr i _ hf
        rw [Nat.zero_add] at hd1
        obtain ⟨g, b, hg, hb, hor⟩ := drawOk1_spec hd1 j hlt
        have hg' : g = foot E ann ops.toList p := by rw [List.getElem?_map, Array.getElem?_toList, hp] at hg; exact (Option.some.inj hg).symm
        subst hg'
        rcases hor with hor | hor
        · have := befores_listed hcl hed i o b ho hb (fun e he hbn => hedges e (Array.mem_toList_iff.1 he) hbn) j hor
          simp only [this] at hj2
          cases hj2
        · exact hor) hk'
      refine stepO_sound hR.call hR.body h ho hstep ?_
      intro S' ρ' lam' a' w' h' hk2
      have e3 : todo ops.size (listed.setIfInBounds i true) = pre ++ post := e2
      refine ih _ (by simp [hs]) hcl' ?_ (by rw [e3]; exact hk2) h'
      have e1' : todo ops.size listed = pre ++ i :: post := e1
      rw [e1'] at hlen
      rw [e3]
      simp at hlen ⊢
      omega

def exR : Ex → Exit
  | .normal => .normal
  | .exit id => .exit id
  | .ret => .ret

theorem region_sound (hR : Sound E R) (hm : E.P.follows .mixedOrders = true) {id : Nat} {ops : Array Oper} {draw : Bool} {Q : Exit → Act → World → Prop} {K : St → Prop} (hok : (!draw || drawOk E ann ops.toList) = true)
    (h : SR H0 ρ0 w0 ann N ρ lam S a w) (hk : stepsO E R ann N ops.toList ops.toList S K)
    (hq : ∀ S' ρ' lam' a' w', SR H0 ρ0 w0 ann N ρ' lam' S' a' w' → K S' → Q .normal a' w') : (Code.region id ops draw).wp E.P Q a w := by
  rw [stepsO_eq ops.toList 0 rfl] at hk
  rw [Array.length_toList, ← List.range_eq_range'] at hk
  cases draw with
  | false => exact wp_region (wpOps_sound hR _ h hk hq)
  | true =>
    refine wp_region_any hm ?_
    have htodo : todo ops.size (Array.replicate ops.size false) = List.range ops.size := by
      unfold todo
      rw [List.filter_eq_self]
      intro i hi
      simp [Array.getD, List.mem_range.1 hi]
    refine draw_sound hR (by simpa using hok) hq ops.size _ (by simp) ?_ (by rw [htodo]; simp) (by rw [htodo]; exact hk) (h.drew _)
    intro i o _ hi
    simp [Array.getD] at hi

theorem joinK_sound {kp : Option Keep} {A : (Ex → St → Prop) → Prop} {K : Ex → St → Prop} {X : Prop}
    (hj : joinK kp A K) (hA : ∀ K' : Ex → St → Prop, A K' → (∀ e S' ρ' lam' a' w', SR H0 ρ0 w0 ann N ρ' lam' S' a' w' → K' e S' → ∃ S'', SR H0 ρ0 w0 ann N ρ' lam' S'' a' w' ∧ K e S'') → X) : X := by
  unfold joinK at hj
  cases kp with
  | none => exact hA K hj fun e S' ρ' lam' a' w' h hk => ⟨S', h, hk⟩
  | some kp =>
    refine hA _ hj ?_
    intro e S' ρ' lam' a' w' h hk
    cases e with
    | normal =>
      obtain ⟨S1, h1, hk⟩ := normK_sound h hk
      exact openS_sound h1 hk
    | exit id => exact ⟨S', h, hk⟩
    | ret => exact ⟨S', h, hk⟩

theorem over_look {α : Type} {l : List (Nat × α)} {dr : List Nat} {g : Nat → Option α} {t : Nat} {x : α} (h : over l dr g t = some x) :
    look l t = some x ∨ (memNat t dr = false ∧ g t = some x) := by
  unfold over at h
  split at h
  · rename_i y hy; cases h; exact .inl hy
  · cases hm : memNat t dr with
    | true => rw [hm] at h; cases h
    | false => rw [hm] at h; exact .inr ⟨rfl, h⟩

theorem joinW_sound {ok : Keep → Bool} {kp : Option Keep} {S : St} {A : (Ex → St → Prop) → Prop} {K : Ex → St → Prop} {X : Prop}
    (hag : ∀ (kp : Keep) (K : Ex → St → Prop), ok kp = true → A K → A fun e S' => K e S' ∧ Agree kp.wT kp.wL S S')
    (hj : joinW ok kp S A K) (hA : ∀ K' : Ex → St → Prop, A K' → (∀ e S' ρ' lam' a' w', SR H0 ρ0 w0 ann N ρ' lam' S' a' w' → K' e S' → ∃ S'', SR H0 ρ0 w0 ann N ρ' lam' S'' a' w' ∧ K e S'') → X) : X := by
  unfold joinW at hj
  cases kp with
  | none => exact hA K hj fun e S' ρ' lam' a' w' h hk => ⟨S', h, hk⟩
  | some kp =>
    simp only [] at hj
    split at hj
    · obtain ⟨hok, hj⟩ := req_elim hj
      refine hA _ (hag kp _ hok hj) ?_
      rintro e S' ρ' lam' a' w' h ⟨hk, ha⟩
      cases e with
      | exit id => exact ⟨S', h, hk⟩
      | ret => exact ⟨S', h, hk⟩
      | normal =>
        have hk : normK (outs kp.outT) (outs kp.outL) S' fun S1 => req ((openT S1 kp.outT).1 && (openL S1 kp.outL).1)
            (K .normal ⟨over (openT S1 kp.outT).2 kp.wT S.tm, over (openL S1 kp.outL).2 kp.wL S.lo, S1.hp⟩) := hk
        unfold normK at hk
        split at hk
        · rename_i m l hm hl
          obtain ⟨hr, hk⟩ := req_elim hk
          rw [Bool.and_eq_true] at hr
          refine ⟨_, h.less (S' := ⟨over (openT ⟨look m, look l, S'.hp⟩ kp.outT).2 kp.wT S.tm, over (openL ⟨look m, look l, S'.hp⟩ kp.outL).2 kp.wL S.lo, S'.hp⟩) (fun t x hx => ?_) (fun t x hx => ?_) rfl, hk⟩
          · rcases over_look hx with hx | ⟨hn, hx⟩
            · exact normT_look hm (openT_look hr.1 hx)
            · rw [ha.1 t hn]; exact hx
          · rcases over_look hx with hx | ⟨hn, hx⟩
            · exact normL_look hl (openL_look hr.2 hx)
            · rw [ha.2 t hn]; exact hx
        · exact hk.elim
    · exact joinK_sound hj hA

theorem cutS_sr {S : St} {ρ lam : Ren} {a : Act} {w : World} {dT dL : List Nat} (h : SR H0 ρ0 w0 ann N ρ lam S a w) : SR H0 ρ0 w0 ann N ρ lam (cutS dT dL S) a w := by
  refine h.less (fun t x hx => ?_) (fun t x hx => ?_) rfl
  · simp only [cutS] at hx
    cases hm : memNat t dT with
    | true => rw [hm] at hx; cases hx
    | false => rw [hm] at hx; exact hx
  · simp only [cutS] at hx
    cases hm : memNat t dL with
    | true => rw [hm] at hx; cases hx
    | false => rw [hm] at hx; exact hx

theorem exec_sound {f : FuncId} {fn : Func} (hR : Sound E R) (hm : E.P.follows .mixedOrders = true) (hf : E.P.funcs[f]? = some fn) (hann : ann = E.ann f) (hN : N = fn.ntmps) :
    ∀ (c : Code) (n : Nat) (S : St) (K : Ex → St → Prop) (ρ lam : Ren) (a : Act) (w : World) (Q : Exit → Act → World → Prop), exec E R f ann N c n S K → SR H0 ρ0 w0 ann N ρ lam S a w →
      (∀ e S' ρ' lam' a' w', SR H0 ρ0 w0 ann N ρ' lam' S' a' w' → K e S' → Q (exR e) a' w') → c.wp E.P Q a w := by
  intro c
  induction c with
  | skip => intro n S K ρ lam a w Q hx h hq; exact wp_skip (hq .normal _ _ _ _ _ h hx)
  | seq x y ihx ihy =>
    intro n S K ρ lam a w Q hx h hq
    refine wp_seq (ihx n S _ ρ lam a w _ hx h ?_)
    intro e S' ρ' lam' a' w' h' hk
    cases e with
    | normal => exact ihy _ _ _ _ _ _ _ _ hk h' hq
    | exit id => exact hq (.exit id) _ _ _ _ _ h' hk
    | ret => exact hq .ret _ _ _ _ _ h' hk
  | cond c x y ihx ihy =>
    intro n S K ρ lam a w Q hx h hq
    simp only [exec] at hx
    split at hx
    · rename_i t ht
      have hb := (h.ev.tv ht).bool_eq
      refine joinW_sound (H0 := H0) (ρ0 := ρ0) (w0 := w0) (ann := ann) (N := N) ?_ hx ?_
      · intro kp K hok
        rw [Bool.and_eq_true] at hok
        exact br_mono (exec_agree hR.mono x _ _ _ hok.1) (exec_agree hR.mono y _ _ _ hok.2)
      intro K' hx hK
      have hq' : ∀ e S' ρ' lam' a' w', SR H0 ρ0 w0 ann N ρ' lam' S' a' w' → K' e S' → Q (exR e) a' w' := by
        intro e S' ρ' lam' a' w' h' hk
        obtain ⟨S'', h'', hk''⟩ := hK e S' ρ' lam' a' w' h' hk
        exact hq e _ _ _ _ _ h'' hk''
      rcases br_elim hx with ⟨rfl, hx⟩ | ⟨rfl, hx⟩
      · exact wp_cond_true hb (ihx _ _ _ _ _ _ _ _ hx h hq')
      · exact wp_cond_false hb (ihy _ _ _ _ _ _ _ _ hx h hq')
    · exact hx.elim
  | block id b ih =>
    intro n S K0 ρ lam a w Q hx h hq
    simp only [exec] at hx
    refine joinW_sound (H0 := H0) (ρ0 := ρ0) (w0 := w0) (ann := ann) (N := N) ?_ hx ?_
    · intro kp K hok hx
      refine exec_mono hR.mono b _ _ _ _ ?_ (exec_agree hR.mono b _ _ _ hok hx)
      rintro e S' ⟨hk, ha⟩
      cases e with
      | normal => exact ⟨hk, ha⟩
      | ret => exact ⟨hk, ha⟩
      | exit j => exact br_mono (fun h => ⟨h, ha⟩) (fun h => ⟨h, ha⟩) hk
    intro K hx hK
    have hq0 := hq
    have hq : ∀ e S' ρ' lam' a' w', SR H0 ρ0 w0 ann N ρ' lam' S' a' w' → K e S' → Q (exR e) a' w' := by
      intro e S' ρ' lam' a' w' h' hk
      obtain ⟨S'', h'', hk''⟩ := hK e S' ρ' lam' a' w' h' hk
      exact hq0 e _ _ _ _ _ h'' hk''
    refine wp_block (ih n S _ ρ lam a w _ hx h ?_)
    intro e S' ρ' lam' a' w' h' hk
    cases e with
    | normal => exact hq .normal _ _ _ _ _ h' hk
    | exit j =>
      simp only [exR, Exit.inBlock]
      rcases br_elim hk with ⟨hj, hk⟩ | ⟨hj, hk⟩
      · rw [if_pos (Nat.eq_of_beq_eq_true hj)]
        exact hq .normal _ _ _ _ _ h' hk
      · rw [if_neg (fun e => by rw [e, Nat.beq_refl] at hj; cases hj)]
        exact hq (.exit j) _ _ _ _ _ h' hk
    | ret => exact hq .ret _ _ _ _ _ h' hk
  | loop c ih =>
    intro n S K ρ lam a w Q hx h hq
    simp only [exec] at hx
    split at hx
    · rename_i kp hkp
      obtain ⟨S0, h0, hx⟩ := normK_sound h hx
      subst hann
      subst hN
      refine wp_of_in (hR.loop _ _ _ _ _ _ hx fn H0 ρ0 w0 ρ lam a w Q hf h0 ?_ ?_)
      · intro S' ρ' lam' a' w' h' hk
        obtain ⟨S'', h'', hk⟩ := openS_sound h' hk
        exact hq .ret _ _ _ _ _ h'' hk
      · intro id S' ρ' lam' a' w' h' hk
        obtain ⟨S'', h'', hk⟩ := exitsK_sound h' hk
        exact hq (.exit id) _ _ _ _ _ h'' hk
    · exact hx.elim
  | exit id => intro n S K ρ lam a w Q hx h hq; exact wp_exit (hq (.exit id) _ _ _ _ _ h hx)
  | ret => intro n S K ρ lam a w Q hx h hq; exact wp_ret (hq .ret _ _ _ _ _ h hx)
  | region id ops draw =>
    intro n S K ρ lam a w Q hx h hq
    simp only [exec] at hx
    obtain ⟨hok, hx⟩ := req_elim hx
    have old : ∀ kp : Option Keep, joinW (fun kp => wOkAll E ann kp.wT kp.wL ops.toList) kp S (fun K => stepsB E R ann N ops.toList ops.toList S (K .normal)) K → (Code.region id ops draw).wp E.P Q a w := by
      intro kp hx
      refine joinW_sound (H0 := H0) (ρ0 := ρ0) (w0 := w0) (ann := ann) (N := N) ?_ hx ?_
      · intro kp K hok hx
        rw [stepsB_eq] at hx ⊢
        exact stepsO_agree hR.mono _ hok hx
      intro K' hx hK
      rw [stepsB_eq] at hx
      refine region_sound hR hm hok h hx ?_
      intro S' ρ' lam' a' w' h' hk
      obtain ⟨S'', h'', hk''⟩ := hK .normal S' ρ' lam' a' w' h' hk
      exact hq .normal _ _ _ _ _ h'' hk''
    revert hx
    split
    · exact old none
    · rename_i kp _
      split
      · intro hx
        have hx := stepsM_run hR.mono _ hx
        rw [stepsB_eq] at hx
        refine region_sound hR hm hok h hx ?_
        intro S' ρ' lam' a' w' h' hk
        exact hq .normal _ _ _ _ _ (cutS_sr h') hk
      · exact old (some kp)
  | rangeFunc => intro n S K ρ lam a w Q hx; exact hx.elim
  | scope => intro n S K ρ lam a w Q hx; exact hx.elim
  | label => intro n S K ρ lam a w Q hx; exact hx.elim
  | goto => intro n S K ρ lam a w Q hx; exact hx.elim
  | refuse => intro n S K ρ lam a w Q hx; exact hx.elim

end
end Go.Am
