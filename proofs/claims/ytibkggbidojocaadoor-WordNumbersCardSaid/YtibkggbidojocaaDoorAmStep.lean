/- One operation of the abstract machine, in the machine. -/
import Derived.Test.YtibkggbidojocaaDoorAmState
namespace Go.Am
set_option linter.unusedSimpArgs false
set_option linter.unusedVariables false
set_option linter.unusedSectionVars false

/-- What a call's answer is, in the machine. -/
def CallPost (H : Heap) (ρ : Ren) (w : World) (K : V → Heap → Prop) (e : Ending) (w' : World) : Prop :=
  ∃ v v' H' ρ', e = .returned v' ∧ K v H' ∧ VR ρ' v v' ∧ HR ρ' H' w' ∧ Since H ρ w H' ρ' w'

def SoundCall (E : Env) (f : FuncId) (args : List V) (H : Heap) (K : V → Heap → Prop) : Prop :=
  ∀ (ρ : Ren) (w : World) (as : Array Value), HR ρ H w → VRs ρ args as.toList → Calls E.P f as w (CallPost H ρ w K)

/-- What the table of library functions says is so. -/
def ExtSound (E : Env) : Prop := ∀ g x, E.ext g = some x → ∀ args H K, x.run args H K → ∀ (ρ : Ren) (w : World) (as : Array Value), HR ρ H w → VRs ρ args as.toList →
  (∃ v v' w' H' ρ', (callFunc g as).run E.P w = .ok (.value v') w' ∧ K v H' ∧ VR ρ' v v' ∧ HR ρ' H' w' ∧ Since H ρ w H' ρ' w') ∨
  ((callFunc g as).run E.P w = .ok (.enter g as) w ∧ Calls E.P g as w (CallPost H ρ w K))

section
variable {E : Env} {H0 : Heap} {ρ0 : Ren} {w0 : World} {ann : Ann} {N : Nat} {ρ lam : Ren} {S : St} {a : Act} {w : World}

theorem zero_spec {t : TypeId} {i : TI} {z : V} (h : E.ti t = some i) (hz : i.zero = some z) (ρ : Ren) (w : World) :
    ∃ z', (zeroValue t).run E.P w = .ok z' w ∧ VRs ρ z.cells z'.cells.toList ∧ OneAll z.cells := by
  obtain ⟨inf, dt, hi, hu, hd, _, _, hz'⟩ := ti_spec h
  rw [hz] at hz'
  obtain ⟨z', hz1, hz2⟩ := Option.bind_eq_some_iff.1 hz'
  exact ⟨z', by simp [zeroValue, typeInfo, hi, hz1], (ofValueA_VR hz2).cells (fun e => by have := ofValueA_one hz2; rw [e] at this; have := this .hole (by simp [V.cells]); cases this), ofValueA_one hz2⟩

theorem cells_new {e : TypeId} {cs : List V} {cs' : Array Value} {rw : Bool} (h : VRs ρ cs cs'.toList) (h1 : OneAll cs) : CellsR ρ e cs rw (some (.cells cs' e)) :=
  ⟨cs', (0, 0), rfl, h, fun _ => h1, fun _ => .inl rfl⟩

theorem lnew_sound {o : Oper} {ev : Ev} {e : Operand → Value} (hev : EvR ρ lam ev e) {r : Bool} {L : Loc} (h : lnewOp E o.op ev = some (r, L)) (hr : r = true) :
    ∃ (x : Go.Obj) (w' : World), (execOp e o).run E.P w = .ok (.value (.pointer (some ⟨w.heap.size, 0, none⟩))) w' ∧ Pushed x w w' ∧ LocR ρ L (some x) := by
  obtain ⟨dst, op, type, pos, after, guard⟩ := o
  cases op with
  | alloc t =>
    simp only [lnewOp] at h
    split at h
    · rename_i i hi
      split at h
      · rename_i z hz
        simp only [Option.some.injEq, Prod.mk.injEq] at h
        obtain ⟨_, rfl⟩ := h
        obtain ⟨z', h1, h2, h3⟩ := zero_spec hi hz ρ w
        refine ⟨.cells z'.cells t, { w with heap := w.heap.push (.cells z'.cells t) }, ?_, ⟨rfl, rfl, rfl, rfl⟩, cells_new h2 h3⟩
        simp [execOp, Instr.alloc, h1, newVar, newRow]
      · cases h
    · cases h
  | box t x =>
    simp only [lnewOp] at h
    split at h
    · rename_i v hv
      split at h
      · rename_i r' vs hvs
        simp only [Option.some.injEq, Prod.mk.injEq] at h
        obtain ⟨rfl, rfl⟩ := h
        obtain ⟨h2, h3⟩ := cellsFor_sound (hev.v hv) hvs hr
        refine ⟨.cells (e x).cells t, { w with heap := w.heap.push (.cells (e x).cells t) }, ?_, ⟨rfl, rfl, rfl, rfl⟩, cells_new h2 h3⟩
        simp [execOp, Instr.box, newVar, newRow]
      · cases h
    · cases h
  | range t x =>
    simp only [lnewOp] at h
    split at h
    · rename_i s hk hx
      obtain ⟨dt, hu, hd⟩ := kind_desc hk
      simp only [Option.some.injEq, Prod.mk.injEq] at h
      obtain ⟨_, rfl⟩ := h
      cases dt <;> simp [shapeOf, shapeK] at hd
      refine ⟨.stringIter s 0, { w with heap := w.heap.push (.stringIter s 0) }, ?_, ⟨rfl, rfl, rfl, rfl⟩, rfl⟩
      simp [execOp, Instr.range, run_underlying hu, (hev.v hx).str_eq]
    · cases h
  | _ => simp [lnewOp] at h

theorem lload_sound {o : Oper} {ev : Ev} {e : Operand → Value} (hev : EvR ρ lam ev e) {s : Nat} {L : Option Loc} {d : Dec T} (h : lloadOp E o.op ev s L = some d) (hr : d.rq = true)
    (hL : ∀ M, L = some M → ∃ b, lam s = some b ∧ LocR ρ M w.heap[b]?) :
    ∃ v, (execOp e o).run E.P w = .ok (.value v) w ∧ TR ρ lam (if d.c = true then d.x else d.y) v := by
  obtain ⟨dst, op, type, pos, after, guard⟩ := o
  cases op with
  | load t a =>
    simp only [lloadOp] at h
    split at h
    · rename_i s' off el cs ha
      obtain ⟨b, hb, hc⟩ := hL _ rfl
      by_cases hs : s = s'
      · subst hs
        simp only [Nat.beq_refl, cond_true] at h
        unfold lift1 at h
        split at h
        · rename_i r v hv
          simp only [Option.some.injEq] at h
          subst h
          obtain ⟨b', hb', he⟩ := hev.lp ha
          rw [hb] at hb'
          cases hb'
          obtain ⟨v', h1, h2⟩ := load_sound hc hv hr (fun _ _ => .inl rfl)
          exact ⟨v', by simp [execOp, Instr.loadAt, he, Instr.sureAddr, h1], .v h2⟩
        · cases h
      · rw [show Nat.beq s s' = false by rw [beq_iff]; simpa using hs] at h
        simp at h
    · cases h
  | _ => simp [lloadOp] at h

theorem getObj_iter {w : World} {b : Nat} {s : ByteArray} {p : Nat} (h : w.heap[b]? = some (.stringIter s p)) : (getObj b).run E.P w = .ok (.stringIter s p) w := by
  simp [getObj, Sem.run, h]

theorem setObj_iter {w : World} {b : Nat} {s : ByteArray} {p q : Nat} (h : w.heap[b]? = some (.stringIter s p)) :
    (setObj b (.stringIter s q)).run E.P w = .ok () { w with heap := w.heap.setIfInBounds b (.stringIter s q) } := by
  simp [setObj, Sem.run, h]

theorem typedCells_eq {t : TypeId} {cs : List V} (h : (typedCells E t cs).1 = true) : (typedCells E t cs).2 = cs := by
  unfold typedCells at h ⊢
  split
  · rename_i ks hk
    rw [hk] at h
    exact expand_eq h rfl
  · rfl

theorem lstore_sound {o : Oper} {ev : Ev} {e : Operand → Value} (hev : EvR ρ lam ev e) {s : Nat} {L : Option Loc} {d : Dec (Loc × T)} (h : lstoreOp E o.op ev s L = some d) (hr : d.rq = true)
    (hL : ∀ M, L = some M → ∃ b, lam s = some b ∧ LocR ρ M w.heap[b]?) :
    ∃ M b w' v, L = some M ∧ lam s = some b ∧ Only b w w' ∧ LocR ρ (if d.c = true then d.x else d.y).1 w'.heap[b]? ∧ TR ρ lam (if d.c = true then d.x else d.y).2 v ∧
      ((execOp e o).run E.P w = .ok (.value v) w' ∨ (v = undef ∧ (execOp e o).run E.P w = .ok .skip w')) := by
  obtain ⟨dst, op, type, pos, after, guard⟩ := o
  cases op with
  | store t a x =>
    simp only [lstoreOp] at h
    split at h
    · rename_i s' off v el cs ha hx
      obtain ⟨b, hb, hc⟩ := hL _ rfl
      split at h
      · rename_i r vs hvs
        by_cases hs : s = s'
        · subst hs
          simp only [Nat.beq_refl, cond_true, Option.some.injEq] at h
          subst h
          obtain ⟨b', hb', he⟩ := hev.lp ha
          rw [hb] at hb'
          cases hb'
          simp only [Dec.one, Bool.and_eq_true] at hr
          obtain ⟨w', h1, h2, h3⟩ := store_sound hc (hev.v hx) hvs hr.1.1 (Nat.le_of_ble_eq_true hr.1.2)
          rw [typedCells_eq hr.2]
          exact ⟨_, b, w', undef, rfl, hb, h3, h2, .undef, .inr ⟨rfl, by simp [execOp, Instr.storeAt, he, Instr.sureAddr, h1]⟩⟩
        · rw [show Nat.beq s s' = false by rw [beq_iff]; simpa using hs] at h
          simp at h
      · cases h
    · cases h
  | next it isStr =>
    cases isStr with
    | false => simp [lstoreOp] at h
    | true =>
      simp only [lstoreOp] at h
      split at h
      · rename_i s' str p ha
        obtain ⟨b, hb, hc⟩ := hL _ rfl
        by_cases hs : s = s'
        · subst hs
          simp only [Nat.beq_refl, cond_true, Option.some.injEq] at h
          subst h
          obtain ⟨b', hb', he⟩ := hev.lp ha
          rw [hb] at hb'
          cases hb'
          have hc : w.heap[b]? = some (.stringIter str p) := hc
          have hlt : b < w.heap.size := by
            rcases Nat.lt_or_ge b w.heap.size with h | h
            · exact h
            · rw [Array.getElem?_eq_none h] at hc; cases hc
          by_cases hp : p < str.size
          · have hp' : Nat.blt p str.size = true := by simpa using hp
            refine ⟨_, b, { w with heap := w.heap.setIfInBounds b (.stringIter str (p + (Utf8.decode str p).2)) },
              .tuple #[.bool true, .int .i64 (p : Int), .int .i32 ((Utf8.decode str p).1 : Int)], rfl, hb, ⟨?_, by simp, rfl, rfl, rfl⟩, ?_, ?_, .inl ?_⟩
            · intro b' hne
              simp [Array.getElem?_setIfInBounds, Ne.symm hne]
            · simp [LocR, hp', hlt]
            · simp only [hp', if_true]
              exact .v (.mk_tuple (.cons (.bool _) (.cons (.int _ _) (.cons (.int _ _) (.nil ρ)))))
            · simp only [execOp, he, Instr.next, Sem.run_bind, getObj_iter hc, Result.andThen_ok, hp, if_true]
              rw [setObj_iter hc]
              simp [goInt]
          · have hp' : Nat.blt p str.size = false := by
              cases hh : Nat.blt p str.size
              · rfl
              · exact (hp (by simpa using hh)).elim
            refine ⟨_, b, w, .tuple #[.bool false], rfl, hb, .refl b w, ?_, ?_, .inl ?_⟩
            · simpa [LocR, hp'] using hc
            · simp only [hp', Bool.false_eq_true, if_false]
              exact .v (.mk_tuple (.cons (.bool _) (.nil ρ)))
            · simp only [execOp, he, Instr.next, Sem.run_bind, getObj_iter hc, Result.andThen_ok, hp, if_false]
              simp
        · rw [show Nat.beq s s' = false by rw [beq_iff]; simpa using hs] at h
          simp at h
      · cases h
  | _ => simp [lstoreOp] at h

end
end Go.Am
