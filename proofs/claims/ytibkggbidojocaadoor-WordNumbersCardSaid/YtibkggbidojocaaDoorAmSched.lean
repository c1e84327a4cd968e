/- Regions whose operations may clash: each order that matters is looked at. -/
import Derived.Test.YtibkggbidojocaaDoorAmDraw
namespace Go.Am
set_option linter.unusedSimpArgs false
set_option linter.unusedVariables false
set_option linter.unusedSectionVars false

theorem meetN_true : ∀ {l m : List Nat}, meetN l m = true → ∃ x, x ∈ l ∧ x ∈ m
  | y :: l, m, h => by
    rw [meetN, Bool.or_eq_true] at h
    rcases h with h | h
    · exact ⟨y, List.mem_cons_self .., memNat_iff.1 h⟩
    · obtain ⟨x, hx1, hx2⟩ := meetN_true h
      exact ⟨x, List.mem_cons_of_mem _ hx1, hx2⟩

theorem meetN_iff {l m : List Nat} : meetN l m = true ↔ ∃ x, x ∈ l ∧ x ∈ m := by
  refine ⟨meetN_true, ?_⟩
  rintro ⟨x, h1, h2⟩
  cases h : meetN l m
  · exact absurd h2 (meetN_false h x h1)
  · rfl

theorem delN_eq (n : Nat) : ∀ l, delN n l = l.filter (fun x => !decide (x = n))
  | [] => rfl
  | x :: l => by
    rw [delN, beq_iff, delN_eq n l]
    by_cases h : n = x
    · subst h; simp
    · have : ¬ x = n := fun e => h e.symm
      simp [h, this]

theorem delN_mem {n j : Nat} {l : List Nat} : j ∈ delN n l ↔ j ∈ l ∧ j ≠ n := by
  rw [delN_eq, List.mem_filter]; simp

theorem delN_comm (i j : Nat) (l : List Nat) : delN i (delN j l) = delN j (delN i l) := by
  rw [delN_eq, delN_eq, delN_eq, delN_eq, List.filter_filter, List.filter_filter]
  congr 1
  funext x
  rw [Bool.and_comm]

theorem delN_len {n : Nat} {l : List Nat} (h : n ∈ l) : (delN n l).length < l.length := by
  rw [delN_eq]
  have := List.length_filter_lt_length_iff_exists (p := fun x => !decide (x = n)) (l := l)
  exact this.2 ⟨n, h, by simp⟩

section
variable {fs : List Foot} {bs : List (List Nat)}

theorem readyIn_iff {rem : List Nat} {i : Nat} : readyIn bs rem i = true ↔ ∀ x ∈ beforeOf bs i, x ∉ rem := by
  unfold readyIn
  rw [Bool.not_eq_true']
  constructor
  · exact fun h x hx => meetN_false h x hx
  · intro h
    cases hm : meetN (beforeOf bs i) rem
    · rfl
    · obtain ⟨x, h1, h2⟩ := meetN_true hm
      exact absurd h2 (h x h1)

theorem ready_del {rem : List Nat} {i j : Nat} (h : readyIn bs rem j = true) : readyIn bs (delN i rem) j = true := by
  rw [readyIn_iff] at h ⊢
  exact fun x hx hm => h x hx (delN_mem.1 hm).1

theorem clashFree_iff {i : Nat} {f : Foot} : ∀ {rem : List Nat}, clashFree fs bs i f rem = true ↔
    ∀ j ∈ rem, i = j ∨ i ∈ beforeOf bs j ∨ ∃ g, fs[j]? = some g ∧ apart g f = true ∧ apart f g = true
  | [] => by simp [clashFree]
  | j :: l => by
    rw [clashFree, Bool.and_eq_true, clashFree_iff]
    simp only [List.forall_mem_cons]
    refine and_congr ?_ Iff.rfl
    simp only [Bool.or_eq_true, beq_iff, decide_eq_true_eq, memNat_iff, or_assoc]
    refine or_congr Iff.rfl (or_congr Iff.rfl ?_)
    cases fs[j]? with
    | none => simp
    | some g => simp

theorem clashFree_del {i j : Nat} {f : Foot} {rem : List Nat} (h : clashFree fs bs i f rem = true) : clashFree fs bs i f (delN j rem) = true := by
  rw [clashFree_iff] at h ⊢
  exact fun k hk => h k (delN_mem.1 hk).1

theorem pick_some {rem : List Nat} {i : Nat} : ∀ {l : List Nat}, pickIn fs bs rem l = some i → i ∈ l ∧ readyIn bs rem i = true ∧ ∃ f, fs[i]? = some f ∧ clashFree fs bs i f rem = true
  | x :: l, h => by
    rw [pickIn] at h
    split at h
    · rename_i f hr hf
      cases hc : clashFree fs bs x f rem with
      | true =>
        rw [hc] at h
        simp only [cond_true, Option.some.injEq] at h
        subst h
        exact ⟨List.mem_cons_self .., hr, f, hf, hc⟩
      | false =>
        rw [hc] at h
        obtain ⟨h1, h2⟩ := pick_some h
        exact ⟨List.mem_cons_of_mem _ h1, h2⟩
    · obtain ⟨h1, h2⟩ := pick_some h
      exact ⟨List.mem_cons_of_mem _ h1, h2⟩

theorem pick_none {rem : List Nat} : ∀ {l : List Nat}, pickIn fs bs rem l = none → ∀ i ∈ l, readyIn bs rem i = true → ∀ f, fs[i]? = some f → clashFree fs bs i f rem = false
  | x :: l, h, i, hi, hr, f, hf => by
    rw [pickIn] at h
    rcases List.mem_cons.1 hi with rfl | hi
    · rw [hr, hf] at h
      simp only [] at h
      cases hc : clashFree fs bs i f rem with
      | true => rw [hc] at h; cases h
      | false => rfl
    · split at h
      · rename_i g _ _
        cases hc : clashFree fs bs x g rem with
        | true => rw [hc] at h; cases h
        | false => rw [hc] at h; exact pick_none h i hi hr f hf
      · exact pick_none h i hi hr f hf

theorem allS_run {step : Nat → St → (St → Prop) → Prop} {g : Nat → Sched} {S : St} {K : St → Prop} : ∀ {l : List Nat}, schedK step (allS g l) S K → ∀ i ∈ l, step i S fun S' => schedK step (g i) S' K
  | [x], h, i, hi => by
    rw [List.mem_singleton] at hi
    subst hi
    exact h
  | x :: y :: l, h, i, hi => by
    obtain ⟨h1, h2⟩ := h
    rcases List.mem_cons.1 hi with rfl | hi
    · exact h1
    · exact allS_run h2 i hi

theorem readyOf_mem {rem : List Nat} {i : Nat} (hr : readyIn bs rem i = true) : ∀ {l : List Nat}, i ∈ l → i ∈ readyOf bs rem l
  | x :: l, h => by
    rw [readyOf]
    rcases List.mem_cons.1 h with rfl | h
    · rw [hr]; exact List.mem_cons_self ..
    · cases readyIn bs rem x
      · exact readyOf_mem hr h
      · exact List.mem_cons_of_mem _ (readyOf_mem hr h)

end

section
variable {E : Env} {H0 : Heap} {ρ0 : Ren} {w0 : World} {ann : Ann} {N : Nat} {ρ lam : Ren} {S : St} {a : Act} {w : World} {R : Rec}

def stepI (E : Env) (R : Rec) (ann : Ann) (N : Nat) (ops : Array Oper) (i : Nat) (S : St) (K : St → Prop) : Prop :=
  match ops[i]? with
  | some o => stepO E R ann N ops.toList o S K
  | none => False

theorem stepI_mono (hm : R.le R) {ops : Array Oper} {i : Nat} {S : St} {K K' : St → Prop} (h : ∀ S, K S → K' S) (hk : stepI E R ann N ops i S K) : stepI E R ann N ops i S K' := by
  unfold stepI at hk ⊢
  split at hk
  · exact stepO_mono hm h hk
  · exact hk

abbrev fsOf (E : Env) (ann : Ann) (ops : Array Oper) : List Foot := ops.toList.map (foot E ann ops.toList)
abbrev bsOf (ops : Array Oper) : List (List Nat) := befores ops.toList []

def runS (E : Env) (R : Rec) (ann : Ann) (N : Nat) (ops : Array Oper) (n : Nat) (rem : List Nat) (S : St) (K : St → Prop) : Prop :=
  schedK (stepI E R ann N ops) (sched (fsOf E ann ops) (bsOf ops) n rem) S K

theorem swapI (hR : Sound E R) {ops : Array Oper} {i j : Nat} {S : St} {K : St → Prop} {f g : Foot} (hi : (fsOf E ann ops)[i]? = some f) (hj : (fsOf E ann ops)[j]? = some g) (ha : apart f g = true)
    (h : stepI E R ann N ops i S fun S' => stepI E R ann N ops j S' K) : stepI E R ann N ops j S fun S' => stepI E R ann N ops i S' K := by
  simp only [fsOf, List.getElem?_map, Array.getElem?_toList, Option.map_eq_some_iff] at hi hj
  obtain ⟨p, hp, rfl⟩ := hi
  obtain ⟨q, hq, rfl⟩ := hj
  simp only [stepI, hp, hq] at h ⊢
  exact stepO_swap hR.mono hR.strict ha h

theorem exch (hR : Sound E R) {ops : Array Oper} : ∀ (n : Nat),
    (∀ (rem : List Nat) (j : Nat) (S : St) (K : St → Prop), rem.length ≤ n → j ∈ rem → j < ops.size → readyIn (bsOf ops) rem j = true → runS E R ann N ops n rem S K →
      stepI E R ann N ops j S fun S' => runS E R ann N ops (n - 1) (delN j rem) S' K) ∧
    (∀ (rem : List Nat) (i : Nat) (f : Foot) (S : St) (K : St → Prop), rem.length ≤ n → i ∈ rem → (fsOf E ann ops)[i]? = some f → readyIn (bsOf ops) rem i = true → clashFree (fsOf E ann ops) (bsOf ops) i f rem = true →
      (stepI E R ann N ops i S fun S' => runS E R ann N ops (n - 1) (delN i rem) S' K) → runS E R ann N ops n rem S K) := by
  intro n
  induction n with
  | zero =>
    refine ⟨fun rem j S K hl hj => ?_, fun rem i f S K hl hi => ?_⟩
    · have := List.eq_nil_of_length_eq_zero (l := rem) (by omega)
      subst this; cases hj
    · have := List.eq_nil_of_length_eq_zero (l := rem) (by omega)
      subst this; cases hi
  | succ m ih =>
    obtain ⟨ihE, ihB⟩ := ih
    have open' : ∀ (rem : List Nat) (S : St) (K : St → Prop) (j : Nat), j ∈ rem → runS E R ann N ops (m + 1) rem S K =
        (match pickIn (fsOf E ann ops) (bsOf ops) rem rem with
        | some i => stepI E R ann N ops i S fun S' => runS E R ann N ops m (delN i rem) S' K
        | none => schedK (stepI E R ann N ops) (allS (fun i => sched (fsOf E ann ops) (bsOf ops) m (delN i rem)) (readyOf (bsOf ops) rem rem)) S K) := by
      intro rem S K j hj
      cases rem with
      | nil => cases hj
      | cons x l =>
        simp only [runS, sched]
        cases pickIn (fsOf E ann ops) (bsOf ops) (x :: l) (x :: l) <;> rfl
    have app : ∀ {rem : List Nat} {i j : Nat} {f : Foot}, i ≠ j → i ∈ rem → j ∈ rem → readyIn (bsOf ops) rem j = true → clashFree (fsOf E ann ops) (bsOf ops) i f rem = true →
        ∃ g, (fsOf E ann ops)[j]? = some g ∧ apart g f = true ∧ apart f g = true := by
      intro rem i j f hne hi hj hr hc
      rcases (clashFree_iff.1 hc) j hj with h | h | h
      · exact absurd h hne
      · exact absurd hi (readyIn_iff.1 hr i h)
      · exact h
    refine ⟨?_, ?_⟩
    · intro rem j S K hl hj hjs hr hk
      rw [open' rem S K j hj] at hk
      rw [Nat.add_sub_cancel]
      split at hk
      · rename_i i hp
        obtain ⟨hi, hri, f, hf, hc⟩ := pick_some hp
        by_cases hij : i = j
        · subst hij; exact hk
        · obtain ⟨g, hg, ha1, ha2⟩ := app hij hi hj hr hc
          have hli := delN_len hi
          have hlj := delN_len hj
          have hjd : j ∈ delN i rem := delN_mem.2 ⟨hj, fun e => hij e.symm⟩
          have hid : i ∈ delN j rem := delN_mem.2 ⟨hi, hij⟩
          have h1 : stepI E R ann N ops i S fun S1 => stepI E R ann N ops j S1 fun S2 => runS E R ann N ops (m - 1) (delN j (delN i rem)) S2 K :=
            stepI_mono hR.mono (fun S1 h => ihE _ j S1 K (by omega) hjd hjs (ready_del hr) h) hk
          have h2 := swapI hR hf hg ha2 h1
          refine stepI_mono hR.mono (fun S1 h => ?_) h2
          refine ihB _ i f S1 K (by omega) hid hf (ready_del hri) (clashFree_del hc) ?_
          rw [delN_comm]
          exact h
      · exact allS_run hk j (readyOf_mem hr hj)
    · intro rem i f S K hl hi hf hri hc hk
      rw [open' rem S K i hi]
      rw [Nat.add_sub_cancel] at hk
      split
      · rename_i k hp
        obtain ⟨hkm, hrk, f', hf', hc'⟩ := pick_some hp
        by_cases hki : k = i
        · subst hki; exact hk
        · obtain ⟨g, hg, ha1, ha2⟩ := app hki hkm hi hri hc'
          rw [hf] at hg
          cases hg
          have hli := delN_len hi
          have hlk := delN_len hkm
          have hkd : k ∈ delN i rem := delN_mem.2 ⟨hkm, hki⟩
          have hid : i ∈ delN k rem := delN_mem.2 ⟨hi, fun e => hki e.symm⟩
          have hks : k < ops.size := by
            have := (List.getElem?_eq_some_iff.1 hf').1
            simpa using this
          have h1 : stepI E R ann N ops i S fun S1 => stepI E R ann N ops k S1 fun S2 => runS E R ann N ops (m - 1) (delN k (delN i rem)) S2 K :=
            stepI_mono hR.mono (fun S1 h => ihE _ k S1 K (by omega) hkd hks (ready_del hrk) h) hk
          have h2 := swapI hR hf hf' ha1 h1
          refine stepI_mono hR.mono (fun S1 h => ?_) h2
          refine ihB _ i f S1 K (by omega) hid hf (ready_del hri) (clashFree_del hc) ?_
          rw [delN_comm]
          exact h
      · rename_i hp
        have := pick_none hp i hi hri f hf
        rw [hc] at this
        cases this

theorem todo_del {n : Nat} {listed : Array Bool} {i : Nat} (hi : i < listed.size) : todo n (listed.setIfInBounds i true) = delN i (todo n listed) := by
  rw [delN_eq]
  unfold todo
  rw [List.filter_filter]
  apply List.filter_congr
  intro j _
  by_cases h : i = j
  · subst h; simp [Array.getD, hi]
  · have : ¬ j = i := fun e => h e.symm
    rw [getD_set_ne false h]
    simp [this]

/-- Whatever order is drawn. -/
theorem sched_sound (hR : Sound E R) {ops : Array Oper} {Q : Exit → Act → World → Prop} {K : St → Prop} (hed : edgesOk ops.toList 0 = true)
    (hq : ∀ S' ρ' lam' a' w', SR H0 ρ0 w0 ann N ρ' lam' S' a' w' → K S' → Q .normal a' w') :
    ∀ (fuel : Nat) (listed : Array Bool) {S : St} {ρ lam : Ren} {a : Act} {w : World}, listed.size = ops.size → Closed ops listed → (todo ops.size listed).length ≤ fuel →
      runS E R ann N ops fuel (todo ops.size listed) S K → SR H0 ρ0 w0 ann N ρ lam S a w → wpAny E.P .any ops Q fuel listed a w := by
  have hin : ∀ {listed : Array Bool} {i : Nat}, listed.size = ops.size → i ∈ Region.ready .any ops listed → i < ops.size ∧ listed.getD i false = false := by
    intro listed i hs hi
    obtain ⟨h0, o, ho, _⟩ := mem_ready.1 hi
    have hlt := (Array.getElem?_eq_some_iff.1 ho).1
    exact ⟨hlt, by rw [← getD_bool (by omega)]; exact h0⟩
  have hmem : ∀ {listed : Array Bool} {i : Nat}, i < ops.size → listed.getD i false = false → i ∈ todo ops.size listed := by
    intro listed i h1 h2
    unfold todo
    rw [List.mem_filter, List.mem_range]
    exact ⟨h1, by rw [h2]; rfl⟩
  intro fuel
  induction fuel with
  | zero =>
    intro listed S ρ lam a w hs hcl hlen hk h
    have hnil : todo ops.size listed = [] := List.eq_nil_of_length_eq_zero (by omega)
    rw [hnil] at hk
    refine ⟨?_, hq _ _ _ _ _ h hk⟩
    cases hr : Region.ready .any ops listed with
    | nil => rfl
    | cons i l =>
      obtain ⟨h1, h2⟩ := hin hs (hr ▸ List.mem_cons_self .. : i ∈ Region.ready .any ops listed)
      have := hmem h1 h2
      rw [hnil] at this
      cases this
  | succ fuel ih =>
    intro listed S ρ lam a w hs hcl hlen hk h
    refine ⟨fun hnone => ?_, fun i hi => ?_⟩
    · have hall : ∀ i, i < ops.size → listed.getD i false = true := by
        intro i
        induction i using Nat.strongRecOn with
        | _ i ihi =>
          intro hi
          cases hl : listed.getD i false
          · exfalso
            have : i ∈ Region.ready .any ops listed := by
              refine mem_ready.2 ⟨by rw [getD_bool (by omega)]; exact hl, ops[i], Array.getElem?_eq_getElem hi, fun e he hb => ?_⟩
              have hlt := edgesOk_spec hed i ops[i] (by rw [Array.getElem?_toList, Array.getElem?_eq_getElem hi]) e (Array.mem_toList_iff.2 he) hb
              exact ihi e.on (by omega) (by omega)
            rw [hnone] at this
            cases this
          · rfl
      have hnil : todo ops.size listed = [] := by
        unfold todo
        rw [List.filter_eq_nil_iff]
        intro i hi
        rw [hall i (List.mem_range.1 hi)]
        simp
      rw [hnil] at hk
      exact hq _ _ _ _ _ h hk
    · obtain ⟨h1, h2⟩ := hin hs hi
      obtain ⟨_, o, ho, hedges⟩ := mem_ready.1 hi
      have hcl' : Closed ops (listed.setIfInBounds i true) := by
        intro j p hp hj e he hb
        by_cases hji : i = j
        · subst hji
          rw [ho] at hp
          cases hp
          exact getD_set_true (hedges e (Array.mem_toList_iff.1 he) hb)
        · rw [getD_set_ne false hji] at hj
          exact getD_set_true (hcl j p hp hj e he hb)
      have hr : readyIn (bsOf ops) (todo ops.size listed) i = true := by
        rw [readyIn_iff]
        intro x hx hm
        unfold beforeOf at hx
        cases hb : (bsOf ops)[i]? with
        | none => rw [hb] at hx; simp at hx
        | some b =>
          rw [hb] at hx
          have := befores_listed hcl hed i o b ho hb (fun e he hbn => hedges e (Array.mem_toList_iff.1 he) hbn) x hx
          unfold todo at hm
          rw [List.mem_filter, this] at hm
          simp at hm
      have hstep := (exch hR (fuel + 1)).1 _ i S K hlen (hmem h1 h2) h1 hr hk
      simp only [stepI, ho, Nat.add_sub_cancel] at hstep
      have hd := delN_len (hmem h1 h2)
      rw [← todo_del (by omega)] at hstep hd
      refine stepO_sound hR.ext hR.call hR.body h ho hstep ?_
      intro S' ρ' lam' a' w' h' hk2
      exact ih _ (by simp [hs]) hcl' (by omega) hk2 h'

end
end Go.Am
