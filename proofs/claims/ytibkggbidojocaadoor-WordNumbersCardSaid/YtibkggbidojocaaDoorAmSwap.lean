/- Two operations that touch nothing in common may be done in either order. -/
import Derived.Test.YtibkggbidojocaaDoorAmMono
namespace Go.Am
set_option linter.unusedSimpArgs false
set_option linter.unusedVariables false
set_option linter.unusedSectionVars false

theorem memNat_iff {n : Nat} : ∀ {l : List Nat}, memNat n l = true ↔ n ∈ l
  | [] => by simp [memNat]
  | x :: l => by
    rw [memNat, Bool.or_eq_true, memNat_iff, List.mem_cons]
    exact ⟨fun h => h.imp Nat.eq_of_beq_eq_true id, fun h => h.imp (fun e => by subst e; exact Nat.beq_refl n) id⟩

theorem meetN_false {l m : List Nat} (h : meetN l m = false) : ∀ x ∈ l, x ∉ m := by
  induction l with
  | nil => intro x hx; cases hx
  | cons y l ih =>
    rw [meetN, Bool.or_eq_false_iff] at h
    intro x hx hm
    rcases List.mem_cons.1 hx with rfl | hx
    · have := memNat_iff.2 hm; rw [h.1] at this; cases this
    · exact ih h.2 x hx hm

structure Upd where
  x : T
  loc : Option (Nat × Loc) := none
  kd : Option Nat := none
  hp : Option Heap := none

def Upd.apply (ann : Ann) (dst : Option Tmp) (u : Upd) (S : St) : St where
  tm := fun t => if dst = some t then some u.x else if u.kd.isSome = true ∧ look ann.base t = u.kd then none else S.tm t
  lo := fun s => match u.loc with | some (s', L) => if s = s' then some L else S.lo s | none => S.lo s
  hp := u.hp.getD S.hp

def okT (ann : Ann) (N : Nat) (dst : Option Tmp) (x : T) : Prop :=
  ∀ d, dst = some d → Nat.blt d N = true ∧ ∀ s off, x = .lp s off → look ann.base d = some s

def putU (dst : Option Tmp) (x : T) (S : St) : St := match dst with | some d => S.setT d x | none => S

theorem putK_iff {ann : Ann} {N : Nat} {dst : Option Tmp} {x : T} {S : St} {K : St → Prop} :
    putK ann N dst x S K ↔ okT ann N dst x ∧ K (putU dst x S) := by
  cases dst with
  | none => simp [putK, okT, putU]
  | some d =>
    by_cases hb : d < N
    · have hb' : Nat.blt d N = true := by simpa using hb
      cases x with
      | v y => simp [putK, okT, req, hb', putU, hb]
      | undef => simp [putK, okT, req, hb', putU, hb]
      | lp s off =>
        cases hl : look ann.base d with
        | none => simp [putK, okT, req, hb', hl]
        | some s' =>
          cases hs : Nat.beq s s'
          · have : s' ≠ s := fun e => by subst e; rw [Nat.beq_refl] at hs; cases hs
            simp [putK, okT, req, hb', hl, hs, this]
          · have : s' = s := (Nat.eq_of_beq_eq_true hs).symm
            simp [putK, okT, req, hb', hl, putU, this, hb]
    · have hb' : Nat.blt d N = false := by
        cases h : Nat.blt d N
        · rfl
        · exact (hb (by simpa using h)).elim
      simp [putK, okT, req, hb', hb]

theorem St.ext' {S S' : St} (h1 : ∀ t, S.tm t = S'.tm t) (h2 : ∀ t, S.lo t = S'.lo t) (h3 : S.hp = S'.hp) : S = S' := by
  cases S; cases S'; simp only [St.mk.injEq]; exact ⟨funext h1, funext h2, h3⟩

theorem beq_iff {a b : Nat} : Nat.beq a b = decide (a = b) := by
  cases h : Nat.beq a b
  · rw [eq_comm, decide_eq_false_iff_not]; intro e; subst e; rw [Nat.beq_refl] at h; cases h
  · rw [eq_comm, decide_eq_true_iff]; exact Nat.eq_of_beq_eq_true h

section
variable {E : Env} {R : Rec} {ann : Ann} {N : Nat} {ops : List Oper}

def actC (E : Env) (R : Rec) (ann : Ann) (o : Oper) (S : St) (P : Upd → Prop) : Prop :=
  match cls E ann o with
  | .pure => match pureOp E o.op (evalO S.tm) with | some d => d.run fun x => P { x } | none => False
  | .lload s => match lloadOp E o.op (evalO S.tm) s (S.lo s) with | some d => d.run fun x => P { x } | none => False
  | .lstore s => match lstoreOp E o.op (evalO S.tm) s (S.lo s) with | some d => d.run fun x => P { x := x.2, loc := some (s, x.1) } | none => False
  | .lnew => match o.dst, lnewOp E o.op (evalO S.tm) with
    | some d, some (r, L) => req r (P { x := .lp d 0, loc := some (d, L), kd := some d })
    | _, _ => False
  | .hread => match hreadOp E o.op (evalO S.tm) S.hp with | some d => d.run fun x => P { x } | none => False
  | .hwrite => hwriteOp E R o.op o.type (evalO S.tm) S.hp fun x H' => P { x, hp := some H' }

def actO (E : Env) (R : Rec) (ann : Ann) (ops : List Oper) (o : Oper) (S : St) (P : Upd → Prop) : Prop :=
  match o.guard with
  | none => actC E R ann o S P
  | some (j, want) =>
    match yieldedA ops S.tm j with
    | some (.v (.bool b)) => br (b == want) (actC E R ann o S P) (P { x := .undef })
    | some .undef => P { x := .undef }
    | _ => False

theorem apply_put (dst : Option Tmp) (x : T) (S : St) : ({ x : Upd }).apply ann dst S = putU dst x S := by
  cases dst with
  | none => exact St.ext' (fun t => by simp [Upd.apply, putU]) (fun t => by simp [Upd.apply, putU]) (by simp [Upd.apply, putU])
  | some d =>
    refine St.ext' (fun t => ?_) (fun t => by simp [Upd.apply, putU, St.setT]) (by simp [Upd.apply, putU, St.setT])
    by_cases h : d = t <;> simp [Upd.apply, putU, St.setT, beq_iff, h, eq_comm]

theorem apply_loc (dst : Option Tmp) (x : T) (s : Nat) (L : Loc) (S : St) : ({ x, loc := some (s, L) : Upd }).apply ann dst S = putU dst x (S.setL s L) := by
  cases dst with
  | none => exact St.ext' (fun t => by simp [Upd.apply, putU, St.setL]) (fun t => by by_cases h : t = s <;> simp [Upd.apply, putU, St.setL, beq_iff, h]) (by simp [Upd.apply, putU, St.setL])
  | some d =>
    refine St.ext' (fun t => ?_) (fun t => by by_cases h : t = s <;> simp [Upd.apply, putU, St.setL, St.setT, beq_iff, h]) (by simp [Upd.apply, putU, St.setT, St.setL])
    by_cases h : d = t <;> simp [Upd.apply, putU, St.setT, St.setL, beq_iff, h, eq_comm]

theorem apply_new (d : Nat) (x : T) (L : Loc) (S : St) : ({ x, loc := some (d, L), kd := some d : Upd }).apply ann (some d) S = putU (some d) x ((kill ann d S).setL d L) := by
  refine St.ext' (fun t => ?_) (fun t => by by_cases h : t = d <;> simp [Upd.apply, putU, St.setL, St.setT, kill, beq_iff, h]) (by simp [Upd.apply, putU, St.setT, St.setL, kill])
  by_cases h : d = t
  · simp [Upd.apply, putU, St.setT, beq_iff, h]
  · have h' : ¬ t = d := fun e => h e.symm
    simp only [Upd.apply, putU, St.setT, St.setL, kill, beq_iff, h, h', Option.some.injEq, decide_false, cond_false, if_false, Option.isSome_some, true_and]
    cases hl : look ann.base t with
    | none => simp
    | some s => by_cases hs : s = d <;> simp [hs]

theorem apply_hp (dst : Option Tmp) (x : T) (H : Heap) (S : St) : ({ x, hp := some H : Upd }).apply ann dst S = putU dst x { S with hp := H } := by
  cases dst with
  | none => exact St.ext' (fun t => by simp [Upd.apply, putU]) (fun t => by simp [Upd.apply, putU]) (by simp [Upd.apply, putU])
  | some d =>
    refine St.ext' (fun t => ?_) (fun t => by simp [Upd.apply, putU, St.setT]) (by simp [Upd.apply, putU, St.setT])
    by_cases h : d = t <;> simp [Upd.apply, putU, St.setT, beq_iff, h, eq_comm]

theorem coreO_iff {o : Oper} {S : St} {K : St → Prop} :
    coreO E R ann N o S K ↔ actC E R ann o S fun u => okT ann N o.dst u.x ∧ K (u.apply ann o.dst S) := by
  unfold coreO actC
  cases cls E ann o with
  | pure => simp only []; cases pureOp E o.op (evalO S.tm) with
    | none => exact Iff.rfl
    | some d => simp only [putK_iff, apply_put]
  | lload s => simp only []; cases lloadOp E o.op (evalO S.tm) s (S.lo s) with
    | none => exact Iff.rfl
    | some d => simp only [putK_iff, apply_put]
  | lstore s => simp only []; cases lstoreOp E o.op (evalO S.tm) s (S.lo s) with
    | none => exact Iff.rfl
    | some d => simp only [putK_iff, apply_loc]
  | lnew => cases hd : o.dst with
    | none => exact Iff.rfl
    | some d => simp only []; cases lnewOp E o.op (evalO S.tm) with
      | none => exact Iff.rfl
      | some p => simp only [putK_iff, apply_new]
  | hread => simp only []; cases hreadOp E o.op (evalO S.tm) S.hp with
    | none => exact Iff.rfl
    | some d => simp only [putK_iff, apply_put]
  | hwrite => simp only [putK_iff, apply_hp]

theorem stepO_iff {o : Oper} {S : St} {K : St → Prop} :
    stepO E R ann N ops o S K ↔ actO E R ann ops o S fun u => okT ann N o.dst u.x ∧ K (u.apply ann o.dst S) := by
  unfold stepO actO
  cases o.guard with
  | none => exact coreO_iff
  | some p =>
    obtain ⟨j, want⟩ := p
    simp only []
    cases yieldedA ops S.tm j with
    | none => exact Iff.rfl
    | some t => cases t with
      | undef => simp only [putK_iff, apply_put]
      | lp s off => exact Iff.rfl
      | v x => cases x with
        | bool b =>
          simp only [br]
          cases b == want with
          | true => exact coreO_iff
          | false => simp only [putK_iff, apply_put]
        | _ => exact Iff.rfl

theorem actC_mono (hR : R.le R) {o : Oper} {S : St} {P P' : Upd → Prop} (h : ∀ u, P u → P' u) (ho : actC E R ann o S P) : actC E R ann o S P' := by
  unfold actC at ho ⊢
  split at ho
  · split at ho
    · exact Dec.run_mono (fun x => h _) ho
    · exact ho
  · split at ho
    · exact Dec.run_mono (fun x => h _) ho
    · exact ho
  · split at ho
    · exact Dec.run_mono (fun x => h _) ho
    · exact ho
  · split at ho
    · exact req_mono (h _) ho
    · exact ho
  · split at ho
    · exact Dec.run_mono (fun x => h _) ho
    · exact ho
  · exact hwriteOp_mono hR (fun x H' => h _) ho

theorem actO_mono (hR : R.le R) {o : Oper} {S : St} {P P' : Upd → Prop} (h : ∀ u, P u → P' u) (ho : actO E R ann ops o S P) : actO E R ann ops o S P' := by
  unfold actO at ho ⊢
  split at ho
  · exact actC_mono hR h ho
  · split at ho
    · exact br_mono (actC_mono hR h) (h _) ho
    · exact h _ ho
    · exact ho

theorem actO_strict (hR : Strict R) {o : Oper} {S : St} {P : Upd → Prop} (ho : actO E R ann ops o S P) : ∃ u, P u := by
  have key : actC E R ann o S P → ∃ u, P u := by
    intro ho
    unfold actC at ho
    split at ho
    · split at ho
      · exact ⟨_, (Dec.run_elim ho).2⟩
      · exact ho.elim
    · split at ho
      · exact ⟨_, (Dec.run_elim ho).2⟩
      · exact ho.elim
    · split at ho
      · exact ⟨_, (Dec.run_elim ho).2⟩
      · exact ho.elim
    · split at ho
      · exact ⟨_, (req_elim ho).2⟩
      · exact ho.elim
    · split at ho
      · exact ⟨_, (Dec.run_elim ho).2⟩
      · exact ho.elim
    · obtain ⟨x, H', h⟩ := hwriteOp_strict hR ho; exact ⟨_, h⟩
  unfold actO at ho
  split at ho
  · exact key ho
  · split at ho
    · rcases br_elim ho with ⟨_, h⟩ | ⟨_, h⟩
      · exact key h
      · exact ⟨_, h⟩
    · exact ⟨_, ho⟩
    · exact ho.elim

theorem Dec.run_det {α : Type} {d : Dec α} {K : α → Prop} (h : d.run K) : ∃ x, ∀ K' : α → Prop, d.run K' ↔ K' x := by
  obtain ⟨h1, h2⟩ := req_elim h
  rcases br_elim h2 with ⟨hc, h⟩ | ⟨hc, h⟩
  · exact ⟨d.x, fun K' => by simp [Dec.run, req, br, h1, hc]⟩
  · exact ⟨d.y, fun K' => by simp [Dec.run, req, br, h1, hc]⟩

/-- All but those that write the heap come to one end. -/
theorem actO_det {o : Oper} {S : St} {P : Upd → Prop} (hw : (foot E ann ops o).wh = false) (ho : actO E R ann ops o S P) :
    ∃ u, ∀ P' : Upd → Prop, actO E R ann ops o S P' ↔ P' u := by
  have key : actC E R ann o S P → ∃ u, ∀ P' : Upd → Prop, actC E R ann o S P' ↔ P' u := by
    intro ho
    unfold actC at ho ⊢
    unfold foot at hw
    cases hc : cls E ann o with
    | pure =>
      simp only [hc] at ho ⊢
      cases hp : pureOp E o.op (evalO S.tm) with
      | none => simp only [hp] at ho
      | some d => simp only [hp] at ho ⊢; obtain ⟨x, h⟩ := Dec.run_det ho; exact ⟨_, fun P' => h fun x => P' { x }⟩
    | lload s =>
      simp only [hc] at ho ⊢
      cases hp : lloadOp E o.op (evalO S.tm) s (S.lo s) with
      | none => simp only [hp] at ho
      | some d => simp only [hp] at ho ⊢; obtain ⟨x, h⟩ := Dec.run_det ho; exact ⟨_, fun P' => h fun x => P' { x }⟩
    | lstore s =>
      simp only [hc] at ho ⊢
      cases hp : lstoreOp E o.op (evalO S.tm) s (S.lo s) with
      | none => simp only [hp] at ho
      | some d => simp only [hp] at ho ⊢; obtain ⟨x, h⟩ := Dec.run_det ho; exact ⟨_, fun P' => h fun x => P' { x := x.2, loc := some (s, x.1) }⟩
    | lnew =>
      simp only [hc] at ho ⊢
      cases hd : o.dst with
      | none => simp only [hd] at ho
      | some d =>
        cases hp : lnewOp E o.op (evalO S.tm) with
        | none => simp only [hd, hp] at ho
        | some p =>
          simp only [hd, hp] at ho ⊢
          exact ⟨{ x := .lp d 0, loc := some (d, p.2), kd := some d }, fun P' => by simp only [req, (req_elim ho).1]⟩
    | hread =>
      simp only [hc] at ho ⊢
      cases hp : hreadOp E o.op (evalO S.tm) S.hp with
      | none => simp only [hp] at ho
      | some d => simp only [hp] at ho ⊢; obtain ⟨x, h⟩ := Dec.run_det ho; exact ⟨_, fun P' => h fun x => P' { x }⟩
    | hwrite => rw [hc] at hw; cases hw
  unfold actO at ho ⊢
  cases hg : o.guard with
  | none => simp only [hg] at ho ⊢; exact key ho
  | some p =>
    obtain ⟨j, want⟩ := p
    simp only [hg] at ho ⊢
    cases hy : yieldedA ops S.tm j with
    | none => simp only [hy] at ho
    | some t => cases t with
      | undef => simp only []; exact ⟨{ x := .undef }, fun P' => Iff.rfl⟩
      | lp s off => simp only [hy] at ho
      | v x => cases x with
        | bool b =>
          simp only [hy] at ho ⊢
          rcases br_elim ho with ⟨hb, h⟩ | ⟨hb, h⟩
          · obtain ⟨u, h⟩ := key h; exact ⟨u, fun P' => by simp only [br, hb]; exact h _⟩
          · exact ⟨{ x := .undef }, fun P' => by simp only [br, hb]⟩
        | _ => simp only [hy] at ho

/-- What an operation writes lies within its footprint. -/
def Upd.within (ann : Ann) (f : Foot) (dst : Option Tmp) (u : Upd) : Prop :=
  (∀ t, dst = some t → t ∈ f.wt) ∧ (∀ s L, u.loc = some (s, L) → s ∈ f.wl) ∧ (u.hp.isSome = true → f.wh = true) ∧
    (∀ d, u.kd = some d → ∀ t, look ann.base t = some d → t ∈ f.wt)

theorem look_mem {t d : Nat} : ∀ {l : List (Nat × Nat)}, look l t = some d → t ∈ basedOn d l
  | [], h => by cases h
  | (k, x) :: l, h => by
    simp only [look, beq_iff] at h
    simp only [basedOn, beq_iff]
    by_cases hk : t = k
    · simp only [hk, decide_true, cond_true, Option.some.injEq] at h
      simp [h, hk]
    · simp only [hk, decide_false, cond_false] at h
      have := look_mem h
      by_cases hx : x = d <;> simp [hx, this]

theorem foot_dst {o : Oper} {t : Nat} (ht : o.dst = some t) : t ∈ (foot E ann ops o).wt := by
  unfold foot
  cases cls E ann o <;> simp [footOf, ht]

theorem actO_within (hR : R.le R) {o : Oper} {S : St} {P : Upd → Prop} (ho : actO E R ann ops o S P) :
    actO E R ann ops o S fun u => P u ∧ u.within ann (foot E ann ops o) o.dst := by
  have hd : ∀ t, o.dst = some t → t ∈ (foot E ann ops o).wt := fun t ht => foot_dst ht
  have plain : ∀ x : T, ({ x : Upd }).within ann (foot E ann ops o) o.dst :=
    fun x => ⟨hd, fun _ _ h => by simp at h, fun h => by simp at h, fun _ h => by simp at h⟩
  have key : actC E R ann o S P → actC E R ann o S fun u => P u ∧ u.within ann (foot E ann ops o) o.dst := by
    intro ho
    unfold actC at ho ⊢
    cases hc : cls E ann o with
    | pure =>
      simp only [hc] at ho ⊢
      cases hp : pureOp E o.op (evalO S.tm) with
      | none => simp only [hp] at ho
      | some d => simp only [hp] at ho ⊢; exact Dec.run_mono (fun x h => ⟨h, plain _⟩) ho
    | lload s =>
      simp only [hc] at ho ⊢
      cases hp : lloadOp E o.op (evalO S.tm) s (S.lo s) with
      | none => simp only [hp] at ho
      | some d => simp only [hp] at ho ⊢; exact Dec.run_mono (fun x h => ⟨h, plain _⟩) ho
    | lstore s =>
      simp only [hc] at ho ⊢
      cases hp : lstoreOp E o.op (evalO S.tm) s (S.lo s) with
      | none => simp only [hp] at ho
      | some d =>
        simp only [hp] at ho ⊢
        refine Dec.run_mono (fun x h => ⟨h, hd, fun s' L h => ?_, fun h => by simp at h, fun _ h => by simp at h⟩) ho
        simp only [Option.some.injEq, Prod.mk.injEq] at h
        simp [foot, footOf, hc, h.1]
    | lnew =>
      simp only [hc] at ho ⊢
      cases hdst : o.dst with
      | none => simp only [hdst] at ho
      | some d =>
        cases hp : lnewOp E o.op (evalO S.tm) with
        | none => simp only [hdst, hp] at ho
        | some p =>
          simp only [hdst, hp] at ho ⊢
          refine req_mono (fun h => ⟨h, fun t ht => hd t (hdst ▸ ht), fun s' L h => ?_, fun h => by simp at h, fun d' h t ht => ?_⟩) ho
          · simp only [Option.some.injEq, Prod.mk.injEq] at h
            simp [foot, footOf, hc, hdst, h.1]
          · simp only [Option.some.injEq] at h
            subst h
            simp [foot, footOf, hc, hdst, killed, look_mem ht]
    | hread =>
      simp only [hc] at ho ⊢
      cases hp : hreadOp E o.op (evalO S.tm) S.hp with
      | none => simp only [hp] at ho
      | some d => simp only [hp] at ho ⊢; exact Dec.run_mono (fun x h => ⟨h, plain _⟩) ho
    | hwrite =>
      simp only [hc] at ho ⊢
      exact hwriteOp_mono hR (fun x H' h => ⟨h, hd, fun _ _ h => by simp at h, fun _ => by simp [foot, footOf, hc], fun _ h => by simp at h⟩) ho
  unfold actO at ho ⊢
  cases hg : o.guard with
  | none => simp only [hg] at ho ⊢; exact key ho
  | some p =>
    obtain ⟨j, want⟩ := p
    simp only [hg] at ho ⊢
    cases hy : yieldedA ops S.tm j with
    | none => simp only [hy] at ho
    | some t => cases t with
      | undef => simp only [hy] at ho ⊢; exact ⟨ho, plain _⟩
      | lp s off => simp only [hy] at ho
      | v x => cases x with
        | bool b => simp only [hy] at ho ⊢; exact br_mono key (fun h => ⟨h, plain _⟩) ho
        | _ => simp only [hy] at ho

end
end Go.Am
