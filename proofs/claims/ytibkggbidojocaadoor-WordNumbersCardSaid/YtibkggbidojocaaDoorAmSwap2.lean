/- Two operations that touch nothing in common, in either order: what an operation reads decides what it comes to. -/
import Derived.Test.YtibkggbidojocaaDoorAmSwap
namespace Go.Am
set_option linter.unusedSimpArgs false
set_option linter.unusedVariables false
set_option linter.unusedSectionVars false

section
variable {E : Env} {R : Rec} {ann : Ann} {N : Nat} {ops : List Oper}

theorem evVs_congr {ev ev' : Ev} : ∀ {l : List Operand}, (∀ x ∈ l, ev x = ev' x) → evVs ev l = evVs ev' l
  | [], _ => rfl
  | x :: l, h => by
    simp only [evVs, evV, h x (List.mem_cons_self ..), evVs_congr (l := l) fun y hy => h y (List.mem_cons_of_mem _ hy)]

theorem evParts_congr {ev ev' : Ev} : ∀ {l : List (Nat × Operand)}, (∀ x ∈ l.map (·.2), ev x = ev' x) → evParts ev l = evParts ev' l
  | [], _ => rfl
  | (i, x) :: l, h => by
    simp only [evParts, evV, h x (by simp), evParts_congr (l := l) fun y hy => h y (by simp only [List.map_cons, List.mem_cons]; exact .inr hy)]

theorem bound_congr {ev ev' : Ev} {x : Operand} (h : ev x = ev' x) : bound x ev = bound x ev' := by simp only [bound, evV, h]

theorem bound1_congr {ev ev' : Ev} {x : Option Operand} {d m : Nat} (h : ∀ y, x = some y → ev y = ev' y) : bound1 ev x d m = bound1 ev' x d m := by
  cases x with
  | none => rfl
  | some y => simp only [bound1, bound_congr (h y rfl)]

theorem bounds3_congr {ev ev' : Ev} {len cap : Nat} {lo hi mx : Option Operand} (h1 : ∀ x, lo = some x → ev x = ev' x) (h2 : ∀ x, hi = some x → ev x = ev' x)
    (h3 : ∀ x, mx = some x → ev x = ev' x) : bounds3 ev len cap lo hi mx = bounds3 ev' len cap lo hi mx := by
  simp only [bounds3, bound1_congr h1, bound1_congr h2, bound1_congr h3]

theorem pureOp_congr {o : Op} {ev ev' : Ev} (h : ∀ x ∈ o.operands.toList, ev x = ev' x) : pureOp E o ev = pureOp E o ev' := by
  cases o with
  | move x => simp only [pureOp, h x (by simp [Op.operands])]
  | assign x => simp only [pureOp, h x (by simp [Op.operands])]
  | pick c a b => simp only [pureOp, h c (by simp [Op.operands]), h a (by simp [Op.operands]), h b (by simp [Op.operands])]
  | binOp op t x y _ => simp only [pureOp, evV, h x (by simp [Op.operands]), h y (by simp [Op.operands])]
  | unOp op t x => simp only [pureOp, evV, h x (by simp [Op.operands])]
  | convert s d x => simp only [pureOp, evV, h x (by simp [Op.operands])]
  | nilCheck x => simp only [pureOp, h x (by simp [Op.operands])]
  | fieldAddr t x f => simp only [pureOp, h x (by simp [Op.operands])]
  | field t x f => simp only [pureOp, evV, h x (by simp [Op.operands])]
  | indexAddr t x i => simp only [pureOp, bound, evV, h x (by simp [Op.operands]), h i (by simp [Op.operands])]
  | index t x i => simp only [pureOp, bound, evV, h x (by simp [Op.operands]), h i (by simp [Op.operands])]
  | slice t x lo hi mx =>
    have hb : ∀ len cap, bounds3 ev len cap lo hi mx = bounds3 ev' len cap lo hi mx := fun len cap =>
      bounds3_congr (fun y hy => h y (by subst hy; simp [Op.operands])) (fun y hy => h y (by subst hy; simp [Op.operands])) (fun y hy => h y (by subst hy; simp [Op.operands]))
    have hb' : ∀ len cap, bounds3 ev len cap lo hi none = bounds3 ev' len cap lo hi none := fun len cap =>
      bounds3_congr (fun y hy => h y (by subst hy; simp [Op.operands])) (fun y hy => h y (by subst hy; simp [Op.operands])) (fun y hy => by cases hy)
    simp only [pureOp, hb, hb', h x (by simp [Op.operands])]
  | makeInterface t x => simp only [pureOp, evV, h x (by simp [Op.operands])]
  | makeFunc f first captured =>
    cases f with
    | func f =>
      have h1 := evVs_congr (ev := ev) (ev' := ev') (l := captured.toList) fun x hx => h x (by simp only [Op.operands, Array.toList_append, List.mem_append]; exact .inr hx)
      simp only [pureOp, h1]
    | _ => rfl
  | extract x i => simp only [pureOp, evV, h x (by simp [Op.operands])]
  | build t parts =>
    have h1 := evParts_congr (ev := ev) (ev' := ev') (l := parts.toList) fun x hx => h x (by simpa only [Op.operands] using hx)
    simp only [pureOp, h1]
  | typeAssert x xt d ok => simp only [pureOp, evV, h x (by simp [Op.operands])]
  | call c =>
    have h1 := evVs_congr (ev := ev) (ev' := ev') (l := c.args.toList) fun x hx => h x (by
      simp only [Op.operands, Call.operands, Array.toList_append, List.mem_append]; exact .inr hx)
    simp only [pureOp, h1]
  | _ => rfl

theorem lloadOp_congr {o : Op} {ev ev' : Ev} {s : Nat} {L : Option Loc} (h : ∀ x ∈ o.operands.toList, ev x = ev' x) : lloadOp E o ev s L = lloadOp E o ev' s L := by
  cases o with
  | load t a => simp only [lloadOp, h a (by simp [Op.operands])]
  | _ => rfl

theorem lstoreOp_congr {o : Op} {ev ev' : Ev} {s : Nat} {L : Option Loc} (h : ∀ x ∈ o.operands.toList, ev x = ev' x) : lstoreOp E o ev s L = lstoreOp E o ev' s L := by
  cases o with
  | store t a x => simp only [lstoreOp, evV, h a (by simp [Op.operands]), h x (by simp [Op.operands])]
  | next it b => cases b with
    | true => simp only [lstoreOp, h it (by simp [Op.operands])]
    | false => rfl
  | _ => rfl

theorem lnewOp_congr {o : Op} {ev ev' : Ev} (h : ∀ x ∈ o.operands.toList, ev x = ev' x) : lnewOp E o ev = lnewOp E o ev' := by
  cases o with
  | box t x => simp only [lnewOp, evV, h x (by simp [Op.operands])]
  | range t x => simp only [lnewOp, evV, h x (by simp [Op.operands])]
  | _ => rfl

theorem hreadOp_congr {o : Op} {ev ev' : Ev} {H : Heap} (h : ∀ x ∈ o.operands.toList, ev x = ev' x) : hreadOp E o ev H = hreadOp E o ev' H := by
  cases o with
  | load t a => simp only [hreadOp, h a (by simp [Op.operands])]
  | convert s d x => simp only [hreadOp, evV, h x (by simp [Op.operands])]
  | _ => rfl

theorem hsimpleOp_congr {o : Op} {ev ev' : Ev} {H : Heap} (h : ∀ x ∈ o.operands.toList, ev x = ev' x) : hsimpleOp E o ev H = hsimpleOp E o ev' H := by
  cases o with
  | buildSlice t len parts =>
    simp only [hsimpleOp]
    rw [evParts_congr (ev := ev) (ev' := ev') fun x hx => h x (by simp only [Op.operands]; simpa using hx)]
  | makeSlice t len cap => simp only [hsimpleOp, evV, h len (by simp [Op.operands]), h cap (by simp [Op.operands])]
  | convert s d x => simp only [hsimpleOp, evV, h x (by simp [Op.operands])]
  | call c =>
    have h1 := evVs_congr (ev := ev) (ev' := ev') (l := c.args.toList) fun x hx => h x (by
      simp only [Op.operands, Call.operands, Array.toList_append, List.mem_append]; exact .inr hx)
    simp only [hsimpleOp, h1]
  | _ => rfl

theorem hwriteOp_congr {o : Op} {rt : TypeId} {ev ev' : Ev} {H : Heap} {K : T → Heap → Prop} (h : ∀ x ∈ o.operands.toList, ev x = ev' x) :
    hwriteOp E R o rt ev H K = hwriteOp E R o rt ev' H K := by
  cases o with
  | box t x => simp only [hwriteOp, evV, h x (by simp [Op.operands])]
  | store t a x => simp only [hwriteOp, evV, h a (by simp [Op.operands]), h x (by simp [Op.operands])]
  | convert s d x => simp only [hwriteOp, hsimpleOp, evV, h x (by simp [Op.operands])]
  | makeSlice t len cap => simp only [hwriteOp]; rw [hsimpleOp_congr h]
  | call c =>
    have h0 := hsimpleOp_congr (E := E) (H := H) h
    have h1 := evVs_congr (ev := ev) (ev' := ev') (l := c.args.toList) fun x hx => h x (by
      simp only [Op.operands, Call.operands, Array.toList_append, List.mem_append]; exact .inr hx)
    cases hc : c.callee with
    | value f =>
      have h2 : ev f = ev' f := h f (by simp [Op.operands, Call.operands, hc])
      have h3 : evV ev f = evV ev' f := by simp only [evV, h2]
      simp only [hwriteOp, hc]
      rw [h1]
      cases evVs ev' c.args.toList with
      | none => simp only [h0]
      | some args => simp only [h3]
    | invoke r m => simp only [hwriteOp, hc, h0]
    | builtin b =>
      simp only [hwriteOp, hc, h0, h1]
      cases b <;> cases evVs ev' c.args.toList <;> rfl
  | buildSlice t len parts => simp only [hwriteOp]; rw [hsimpleOp_congr h]
  | _ => rfl

theorem slotsOf_mem {t : Nat} : ∀ {l : List Operand}, Operand.tmp t ∈ l → t ∈ slotsOf l
  | [], h => by cases h
  | x :: l, h => by
    rcases List.mem_cons.1 h with rfl | h
    · simp [slotsOf]
    · have := slotsOf_mem h
      cases x <;> simp [slotsOf, this]

theorem foot_rt' {o : Oper} : (foot E ann ops o).rt = rtOf ops o := by
  unfold foot
  cases cls E ann o <;> rfl

theorem foot_rt {o : Oper} {t : Nat} (h : t ∈ slotsOf o.op.operands.toList) : t ∈ (foot E ann ops o).rt := by
  rw [foot_rt']
  exact List.mem_append.2 (.inl h)

theorem foot_guard {o : Oper} {j : Nat} {want : Bool} {q : Oper} {d : Nat} (hg : o.guard = some (j, want)) (hq : ops[j]? = some q) (hd : q.dst = some d) :
    d ∈ (foot E ann ops o).rt := by
  rw [foot_rt']
  exact List.mem_append.2 (.inr (by simp [guardSlots, hg, hq, hd]))

/-- What an operation comes to hangs on what it reads, on nothing else. -/
theorem actO_congr {o : Oper} {S S' : St} {P : Upd → Prop} (ht : ∀ t ∈ (foot E ann ops o).rt, S.tm t = S'.tm t) (hl : ∀ s ∈ (foot E ann ops o).rl, S.lo s = S'.lo s)
    (hh : (foot E ann ops o).rh = true → S.hp = S'.hp) : actO E R ann ops o S P = actO E R ann ops o S' P := by
  have hev : ∀ x ∈ o.op.operands.toList, evalO S.tm x = evalO S'.tm x := by
    intro x hx
    cases x with
    | tmp t => exact ht t (foot_rt (slotsOf_mem hx))
    | _ => rfl
  have key : actC E R ann o S P = actC E R ann o S' P := by
    unfold actC
    cases hc : cls E ann o with
    | pure => simp only [pureOp_congr hev]
    | lload s => simp only [lloadOp_congr hev, hl s (by simp [foot, footOf, hc])]
    | lstore s => simp only [lstoreOp_congr hev, hl s (by simp [foot, footOf, hc])]
    | lnew => simp only [lnewOp_congr hev]
    | hread => simp only [hreadOp_congr hev, hh (by simp [foot, footOf, hc])]
    | hwrite => simp only [hwriteOp_congr hev, hh (by simp [foot, footOf, hc])]
  unfold actO
  cases hg : o.guard with
  | none => exact key
  | some p =>
    obtain ⟨j, want⟩ := p
    have hy : yieldedA ops S.tm j = yieldedA ops S'.tm j := by
      unfold yieldedA
      cases hq : ops[j]? with
      | none => rfl
      | some q => cases hd : q.dst with
        | none => simp only [hd]
        | some d => simp only [hd]; exact ht d (foot_guard hg hq hd)
    simp only [hy, key]

theorem apart_spec {a b : Foot} (h : apart a b = true) :
    (∀ x ∈ a.wt, x ∉ b.rt) ∧ (∀ x ∈ a.wt, x ∉ b.wt) ∧ (∀ x ∈ b.wt, x ∉ a.rt) ∧ (∀ x ∈ a.wl, x ∉ b.rl) ∧ (∀ x ∈ a.wl, x ∉ b.wl) ∧ (∀ x ∈ b.wl, x ∉ a.rl) ∧
      (a.wh = true → b.rh = false) ∧ (b.wh = true → a.rh = false) := by
  simp only [apart, Bool.and_eq_true, Bool.not_eq_true'] at h
  obtain ⟨⟨⟨⟨⟨⟨⟨h1, h2⟩, h3⟩, h4⟩, h5⟩, h6⟩, h7⟩, h8⟩ := h
  refine ⟨meetN_false h1, meetN_false h2, meetN_false h3, meetN_false h4, meetN_false h5, meetN_false h6, fun h => ?_, fun h => ?_⟩
  · rw [h] at h7; simpa using h7
  · rw [h] at h8; simpa using h8

theorem wh_rh {o : Oper} (h : (foot E ann ops o).wh = true) : (foot E ann ops o).rh = true := by
  unfold foot at h ⊢
  cases hc : cls E ann o <;> rw [hc] at h <;> first | rfl | cases h

theorem apply_tm {o : Oper} {u : Upd} {S : St} {t : Nat} (hu : u.within ann (foot E ann ops o) o.dst) (ht : t ∉ (foot E ann ops o).wt) :
    (u.apply ann o.dst S).tm t = S.tm t := by
  have h1 : ¬ o.dst = some t := fun e => ht (hu.1 t e)
  have h2 : ¬ (u.kd.isSome = true ∧ look ann.base t = u.kd) := by
    rintro ⟨h, e⟩
    cases hk : u.kd with
    | none => rw [hk] at h; cases h
    | some d => exact ht (hu.2.2.2 d hk t (e.trans hk))
  simp only [Upd.apply, if_neg h1, if_neg h2]

theorem apply_lo {o : Oper} {u : Upd} {S : St} {s : Nat} (hu : u.within ann (foot E ann ops o) o.dst) (hs : s ∉ (foot E ann ops o).wl) :
    (u.apply ann o.dst S).lo s = S.lo s := by
  simp only [Upd.apply]
  cases hl : u.loc with
  | none => rfl
  | some p =>
    have : s ≠ p.1 := fun e => hs (e ▸ hu.2.1 p.1 p.2 hl)
    simp [this]

theorem apply_hp' {o : Oper} {u : Upd} {S : St} (hu : u.within ann (foot E ann ops o) o.dst) (hs : (foot E ann ops o).wh = false) :
    (u.apply ann o.dst S).hp = S.hp := by
  simp only [Upd.apply]
  cases hh : u.hp with
  | none => rfl
  | some H => have := hu.2.2.1 (by simp [hh]); rw [hs] at this; cases this

theorem apply_comm {p q : Oper} {u v : Upd} {S : St} (ha : apart (foot E ann ops p) (foot E ann ops q) = true) (hu : u.within ann (foot E ann ops p) p.dst)
    (hv : v.within ann (foot E ann ops q) q.dst) : v.apply ann q.dst (u.apply ann p.dst S) = u.apply ann p.dst (v.apply ann q.dst S) := by
  obtain ⟨_, h2, _, _, h5, _, h7, _⟩ := apart_spec ha
  refine St.ext' (fun t => ?_) (fun s => ?_) ?_
  · by_cases ht : t ∈ (foot E ann ops p).wt
    · rw [apply_tm hv (h2 t ht)]
      simp only [Upd.apply]
      split
      · rfl
      · split
        · rfl
        · exact (apply_tm hv (h2 t ht)).symm
    · rw [apply_tm hu ht]
      simp only [Upd.apply]
      split
      · rfl
      · split
        · rfl
        · exact apply_tm hu ht
  · by_cases hs : s ∈ (foot E ann ops p).wl
    · rw [apply_lo hv (h5 s hs)]
      simp only [Upd.apply]
      split
      · split
        · rfl
        · exact (apply_lo hv (h5 s hs)).symm
      · exact (apply_lo hv (h5 s hs)).symm
    · rw [apply_lo hu hs]
      simp only [Upd.apply]
      split
      · split
        · rfl
        · exact apply_lo hu hs
      · exact apply_lo hu hs
  · cases hw : (foot E ann ops p).wh
    · rw [apply_hp' hu hw]
      simp only [Upd.apply]
      have := apply_hp' (S := S) hu hw
      simp only [Upd.apply] at this
      rw [this]
    · have hq : (foot E ann ops q).wh = false := by
        cases hq : (foot E ann ops q).wh
        · rfl
        · have := h7 hw; rw [wh_rh hq] at this; cases this
      rw [apply_hp' hv hq]
      simp only [Upd.apply]
      have := apply_hp' (S := S) hv hq
      simp only [Upd.apply] at this
      rw [this]

/-- The later one may be done first. -/
theorem stepO_swap (hm : R.le R) (hs : Strict R) {p q : Oper} {S : St} {K : St → Prop} (ha : apart (foot E ann ops p) (foot E ann ops q) = true)
    (h : stepO E R ann N ops p S fun S' => stepO E R ann N ops q S' K) : stepO E R ann N ops q S fun S' => stepO E R ann N ops p S' K := by
  obtain ⟨h1, h2, h3, h4, h5, h6, h7, h8⟩ := apart_spec ha
  rw [stepO_iff] at h ⊢
  have eq1 : ∀ u : Upd, u.within ann (foot E ann ops p) p.dst → ∀ P, actO E R ann ops q (u.apply ann p.dst S) P = actO E R ann ops q S P := fun u hu P =>
    actO_congr (fun t ht => apply_tm hu fun hw => h1 t hw ht) (fun s hs => apply_lo hu fun hw => h4 s hw hs) (fun hr => by
      cases hw : (foot E ann ops p).wh
      · exact apply_hp' hu hw
      · have := h7 hw; rw [hr] at this; cases this)
  have eq2 : ∀ u : Upd, u.within ann (foot E ann ops q) q.dst → ∀ P, actO E R ann ops p (u.apply ann q.dst S) P = actO E R ann ops p S P := fun u hu P =>
    actO_congr (fun t ht => apply_tm hu fun hw => h3 t hw ht) (fun s hs => apply_lo hu fun hw => h6 s hw hs) (fun hr => by
      cases hw : (foot E ann ops q).wh
      · exact apply_hp' hu hw
      · have := h8 hw; rw [hr] at this; cases this)
  have h' := actO_within hm h
  have main : actO E R ann ops p S fun u => okT ann N p.dst u.x ∧ u.within ann (foot E ann ops p) p.dst ∧
      actO E R ann ops q S fun v => okT ann N q.dst v.x ∧ v.within ann (foot E ann ops q) q.dst ∧ K (u.apply ann p.dst (v.apply ann q.dst S)) := by
    refine actO_mono hm ?_ h'
    rintro u ⟨⟨hok, hq⟩, hu⟩
    refine ⟨hok, hu, ?_⟩
    rw [stepO_iff, eq1 u hu] at hq
    refine actO_mono hm ?_ (actO_within hm hq)
    rintro v ⟨⟨hv1, hv2⟩, hv⟩
    exact ⟨hv1, hv, apply_comm ha hu hv ▸ hv2⟩
  cases hw : (foot E ann ops p).wh
  · obtain ⟨u, hdet⟩ := actO_det hw main
    obtain ⟨hok, hu, hq⟩ := (hdet _).1 main
    refine actO_mono hm ?_ hq
    rintro v ⟨hv1, hv, hk⟩
    refine ⟨hv1, ?_⟩
    rw [stepO_iff, eq2 v hv]
    exact (hdet _).2 ⟨hok, hk⟩
  · have hwq : (foot E ann ops q).wh = false := by
      cases hq : (foot E ann ops q).wh
      · rfl
      · have := h7 hw; rw [wh_rh hq] at this; cases this
    obtain ⟨u, _, _, hq⟩ := actO_strict hs main
    obtain ⟨v, hdet⟩ := actO_det hwq hq
    obtain ⟨hv1, hv, _⟩ := (hdet _).1 hq
    refine (hdet _).2 ⟨hv1, ?_⟩
    rw [stepO_iff, eq2 v hv]
    refine actO_mono hm ?_ main
    rintro u ⟨hok, hu, hq⟩
    exact ⟨hok, ((hdet _).1 hq).2.2⟩

end
end Go.Am
