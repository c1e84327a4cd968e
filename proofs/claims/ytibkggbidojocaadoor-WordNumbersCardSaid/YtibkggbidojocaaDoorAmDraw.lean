/- The abstract machine is sound: regions that draw their order. -/
import Derived.Test.YtibkggbidojocaaDoorAmSound2
import Derived.Test.YtibkggbidojocaaDoorAmAgree
namespace Go.Am
set_option linter.unusedSimpArgs false
set_option linter.unusedVariables false
set_option linter.unusedSectionVars false

section
variable {E : Env} {H0 : Heap} {ρ0 : Ren} {w0 : World} {ann : Ann} {N : Nat} {ρ lam : Ren} {S : St} {a : Act} {w : World} {R : Rec}

def Closed (ops : Array Oper) (listed : Array Bool) : Prop :=
  ∀ i o, ops[i]? = some o → listed.getD i false = true → ∀ e ∈ o.after.toList, Region.binds .any e = true → listed.getD e.on false = true

theorem befores_listed {ops : Array Oper} {listed : Array Bool} (hcl : Closed ops listed) (hed : edgesOk ops.toList 0 = true) : ∀ (i : Nat) (o : Oper) (b : List Nat), ops[i]? = some o →
    (befores ops.toList [])[i]? = some b → (∀ e ∈ o.after.toList, Region.binds .any e = true → listed.getD e.on false = true) → ∀ j ∈ b, listed.getD j false = true := by
  intro i
  induction i using Nat.strongRecOn with
  | _ i ih =>
    intro o b ho hb hl j hj
    rcases befores_spec ops.toList [] i b hb with ⟨h, _⟩ | ⟨q, h1, _, h3⟩
    · simp at h
    · have hq : q = o := by simp only [List.length_nil, Nat.sub_zero] at h1; rw [Array.getElem?_toList, ho] at h1; exact (Option.some.inj h1).symm
      subst hq
      obtain ⟨e, he, hbn, hj⟩ := h3 j hj
      rcases hj with rfl | ⟨hlt, b', hb', hj⟩
      · exact hl e he hbn
      · have hon := hl e he hbn
        have hin : e.on < ops.size := by
          rcases Nat.lt_or_ge e.on ops.size with h | h
          · exact h
          · have := (Array.getElem?_eq_some_iff.1 ho).1; omega
        exact ih e.on hlt ops[e.on] b' (Array.getElem?_eq_getElem hin) hb' (hcl e.on _ (Array.getElem?_eq_getElem hin) hon) j hj

theorem getD_bool {listed : Array Bool} {i : Nat} (h : i < listed.size) : listed.getD i true = listed.getD i false := by simp [Array.getD, h]

theorem draw_sound (hR : Sound E R) {ops : Array Oper} {Q : Exit → Act → World → Prop} {K : St → Prop} (hok : drawOk E ann ops.toList = true)
    (hq : ∀ S' ρ' lam' a' w', SR H0 ρ0 w0 ann N ρ' lam' S' a' w' → K S' → Q .normal a' w') :
    ∀ (fuel : Nat) (listed : Array Bool) {S : St} {ρ lam : Ren} {a : Act} {w : World}, listed.size = ops.size → Closed ops listed → (todo ops.size listed).length ≤ fuel →
      stepsI E R ann N ops (todo ops.size listed) S K → SR H0 ρ0 w0 ann N ρ lam S a w → wpAny E.P .any ops Q fuel listed a w := by
  rw [drawOk, Bool.and_eq_true] at hok
  obtain ⟨hed, hdr⟩ := hok
  have hin : ∀ {listed : Array Bool} {i : Nat}, listed.size = ops.size → i ∈ Region.ready .any ops listed → i < ops.size ∧ listed.getD i false = false := by
    intro listed i hs hi
    obtain ⟨h0, o, ho, _⟩ := mem_ready.1 hi
    have hlt := (Array.getElem?_eq_some_iff.1 ho).1
    exact ⟨hlt, by rw [← getD_bool (by omega)]; exact h0⟩
  have hmem : ∀ {listed : Array Bool} {i : Nat}, i < ops.size → listed.getD i false = false → i ∈ todo ops.size listed := by
    intro listed i h1 h2
    unfold todo
    rw [List.mem_filter, List.mem_range]
    exact ⟨h1, by rw [h2]; rfl⟩
  intro fuel
  induction fuel with
  | zero =>
    intro listed S ρ lam a w hs hcl hlen hk h
    have hnil : todo ops.size listed = [] := List.eq_nil_of_length_eq_zero (by omega)
    rw [hnil] at hk
    refine ⟨?_, hq _ _ _ _ _ h hk⟩
    cases hr : Region.ready .any ops listed with
    | nil => rfl
    | cons i l =>
      obtain ⟨h1, h2⟩ := hin hs (hr ▸ List.mem_cons_self .. : i ∈ Region.ready .any ops listed)
      have := hmem h1 h2
      rw [hnil] at this
      cases this
  | succ fuel ih =>
    intro listed S ρ lam a w hs hcl hlen hk h
    refine ⟨fun hnone => ?_, fun i hi => ?_⟩
    · have hall : ∀ i, i < ops.size → listed.getD i false = true := by
        intro i
        induction i using Nat.strongRecOn with
        | _ i ihi =>
          intro hi
          cases hl : listed.getD i false
          · exfalso
            have : i ∈ Region.ready .any ops listed := by
              refine mem_ready.2 ⟨by rw [getD_bool (by omega)]; exact hl, ops[i], Array.getElem?_eq_getElem hi, fun e he hb => ?_⟩
              have hlt := edgesOk_spec hed i ops[i] (by rw [Array.getElem?_toList, Array.getElem?_eq_getElem hi]) e (Array.mem_toList_iff.2 he) hb
              exact ihi e.on (by omega) (by omega)
            rw [hnone] at this
            cases this
          · rfl
      have hnil : todo ops.size listed = [] := by
        unfold todo
        rw [List.filter_eq_nil_iff]
        intro i hi
        rw [hall i (List.mem_range.1 hi)]
        simp
      rw [hnil] at hk
      exact hq _ _ _ _ _ h hk
    · obtain ⟨h1, h2⟩ := hin hs hi
      obtain ⟨_, o, ho, hedges⟩ := mem_ready.1 hi
      have hcl' : Closed ops (listed.setIfInBounds i true) := by
        intro j p hp hj e he hb
        by_cases hji : i = j
        · subst hji
          rw [ho] at hp
          cases hp
          exact getD_set_true (hedges e (Array.mem_toList_iff.1 he) hb)
        · rw [getD_set_ne false hji] at hj
          exact getD_set_true (hcl j p hp hj e he hb)
      obtain ⟨pre, post, e1, e2, h3, h4⟩ := filter_split (p := fun j => !listed.getD j false) (q := fun j => !(listed.setIfInBounds i true).getD j false) (i := i)
        (fun j hj => by rw [getD_set_ne false (fun e => hj e.symm)]) (by simp only [h2]; rfl) (by simp [Array.getD, hs, h1]) (List.range ops.size) (List.mem_range.2 h1) List.nodup_range
      have hk' : stepsI E R ann N ops (pre ++ i :: post) S K := by
        have : todo ops.size listed = pre ++ i :: post := e1
        rw [← this]; exact hk
      have hstep := stepsI_first hR ho pre post (by
        intro j hj p hp
        obtain ⟨hj1, hj2, hj3⟩ := h3 j hj
        have hlt := h4 List.pairwise_lt_range j hj
        have hf : (ops.toList.map (foot E ann ops.toList))[i]? = some (foot E ann ops.toList o) := by rw [List.getElem?_map, Array.getElem?_toList, ho]; rfl
        have hd1 := drawOkAll_spec hdr i _ hf
        rw [Nat.zero_add] at hd1
        obtain ⟨g, b, hg, hb, hor⟩ := drawOk1_spec hd1 j hlt
        have hg' : g = foot E ann ops.toList p := by rw [List.getElem?_map, Array.getElem?_toList, hp] at hg; exact (Option.some.inj hg).symm
        subst hg'
        rcases hor with hor | hor
        · have := befores_listed hcl hed i o b ho hb (fun e he hbn => hedges e (Array.mem_toList_iff.1 he) hbn) j hor
          simp only [this] at hj2
          cases hj2
        · exact hor) hk'
      refine stepO_sound hR.ext hR.call hR.body h ho hstep ?_
      intro S' ρ' lam' a' w' h' hk2
      have e3 : todo ops.size (listed.setIfInBounds i true) = pre ++ post := e2
      refine ih _ (by simp [hs]) hcl' ?_ (by rw [e3]; exact hk2) h'
      have e1' : todo ops.size listed = pre ++ i :: post := e1
      rw [e1'] at hlen
      rw [e3]
      simp at hlen ⊢
      omega

end
end Go.Am
