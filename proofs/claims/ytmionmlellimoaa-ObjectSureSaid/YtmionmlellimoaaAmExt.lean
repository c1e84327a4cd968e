/- Library functions that the machine has of its own. -/
import Derived.Test.YtmionmlellimoaaAmMain
import Derived.Laws.Externs
import Derived.Laws.NewFold
namespace Go.Am
set_option linter.unusedSimpArgs false
set_option linter.unusedVariables false
set_option linter.unusedSectionVars false

def ovRun (args : List V) (H : Heap) (K : V → Heap → Prop) : Prop :=
  match args with
  | [.slice (some (i, o)) la _, .slice (some (j, _)) lb _] =>
    i ≠ j ∧ 0 < la ∧ 0 < lb ∧ (∃ e cs, H.get i = some (.cells e cs false) ∧ o < cs.length) ∧ (∃ e cs ro, H.get j = some (.cells e cs ro)) ∧ K (.bool true) H ∧ K (.bool false) H
  | _ => False

theorem ovRun_inv {args : List V} {H : Heap} {K : V → Heap → Prop} (h : ovRun args H K) : ∃ i o la ca j o' lb cb, args = [.slice (some (i, o)) la ca, .slice (some (j, o')) lb cb] ∧
    i ≠ j ∧ 0 < la ∧ 0 < lb ∧ (∃ e cs, H.get i = some (.cells e cs false) ∧ o < cs.length) ∧ (∃ e cs ro, H.get j = some (.cells e cs ro)) ∧ K (.bool true) H ∧ K (.bool false) H := by
  unfold ovRun at h
  split at h
  · exact ⟨_, _, _, _, _, _, _, _, rfl, h⟩
  · exact h.elim

/-- slices.overlaps, of rows in two blocks, the first of which is owned: whatever it says. -/
def extOverlaps : Ext where
  run := ovRun
  mono args H K K' h hk := by
    unfold ovRun at hk ⊢
    split at hk
    · obtain ⟨a, b, c, d, e, f, g⟩ := hk
      exact ⟨a, b, c, d, e, h _ _ f, h _ _ g⟩
    · exact hk
  strict args H K hk := by
    unfold ovRun at hk
    split at hk
    · obtain ⟨a, b, c, d, e, f, g⟩ := hk
      exact ⟨_, _, f⟩
    · exact hk.elim

theorem HR.heap {ρ : Ren} {H : Heap} {w w' : World} (h : HR ρ H w) (he : w'.heap = w.heap) : HR ρ H w' :=
  ⟨fun id o hg => by rw [he]; exact h.obj id o hg, h.inj, fun id b hb => by rw [he]; exact h.lt id b hb⟩

theorem run_overlaps {P : Program} {w : World} {tS tR e : TypeId} (ht : P.underlying tS = some (.slice e)) {size : Nat} (hz : ∀ w, (Go.sizeOf e).run P w = .ok size w)
    {a b : Addr} {la ca lb cb : Nat} (hne : a.block ≠ b.block) {tA tB : TypeId} {kA kB : Nat} (hsa : w.shape? a.block = some (tA, kA)) (hsb : w.shape? b.block = some (tB, kB)) (hfa : w.frozen? a = false) :
    ∃ r w', (Extern.SlicesOverlaps.overlaps #[tS, tS] #[tR] #[.slice (some a) la ca, .slice (some b) lb cb]).run P w = .ok (.bool r) w' ∧ (w' = w ∨ w' = w.drew) := by
  have hnb : (a.block != b.block) = true := by simpa using hne
  have hnb' : (a.block == b.block) = false := by simpa using hne
  change ∃ r w', Sem.run P (α := Value) (do
    let some t := (#[tS, tS] : Array TypeId)[0]? | stuck "slices.overlaps: no parameter types"
    let .slice elem ← underlying t | stuck "slices.overlaps: slice type expected"
    let size ← sizeOf elem
    match (some a : Option Addr), (some b : Option Addr) with
    | some a, some b =>
      if la = 0 ∨ lb = 0 ∨ size = 0 then pure (Value.bool false)
      else if a.block != b.block && (← frozen a) && (← frozen b) then unsupported .addressObserved
      else do
        if a.block != b.block then do
          noView a; noView b
          if ← mayBeOne a b then return Value.bool ((← choose (.extern "sameAddr.stringBytes" 2)) == 1)
        pure (Value.bool (a.block == b.block && a.off < b.off + lb * size && b.off < a.off + la * size))
    | _, _ => pure (Value.bool false)) w = .ok (.bool r) w' ∧ (w' = w ∨ w' = w.drew)
  by_cases h0 : la = 0 ∨ lb = 0 ∨ size = 0
  · exact ⟨false, w, by simp [run_underlying ht, hz, h0], .inl rfl⟩
  · have hm : ∃ m, (mayBeOne a b).run P w = .ok m w := by
      cases hf1 : w.frozen? b <;> cases hf2 : w.frozen? ⟨a.block, kA, none⟩ <;> cases hf3 : w.frozen? ⟨b.block, kB, none⟩ <;> cases kA <;> cases kB <;>
        exact ⟨_, by simp [mayBeOne, stringish, shape, frozen, Sem.run, hsa, hsb, hfa, hf1, hf2, hf3]; rfl⟩
    obtain ⟨m, hm⟩ := hm
    cases m with
    | false => exact ⟨_, w, by simp [run_underlying ht, hz, h0, hnb, hnb', frozen, noView, viewAt, shape, Sem.run, hsa, hsb, hfa, hm]; rfl, .inl rfl⟩
    | true => exact ⟨_, w.drew, by simp [run_underlying ht, hz, h0, hnb, hnb', frozen, noView, viewAt, shape, Sem.run, hsa, hsb, hfa, hm, Question.forced]; rfl, .inr rfl⟩

/-- The table of library functions: those that are slices.overlaps. -/
def extTab (l : List Nat) (g : Nat) : Option Ext := bif memNat g l then some extOverlaps else none

/-- Is a function slices.overlaps, of slices of one type? -/
def OvOk (P : Program) (g : Nat) : Prop := ∃ fn tS tR e, P.funcs[g]? = some fn ∧ (fn.name == "runtime.NumGoroutine") = false ∧ fn.body.isNone = true ∧ Extern.findNext fn = none ∧
  Extern.find fn = some (Extern.SlicesOverlaps.overlaps #[tS, tS] #[tR]) ∧ P.underlying tS = some (.slice e) ∧ (P.info? e).isSome = true

theorem ext_sound {E : Env} {l : List Nat} (he : E.ext = extTab l) (hl : ∀ g, g ∈ l → OvOk E.P g) : ExtSound E := by
  intro g x hx args H K hk ρ w as hr ha
  rw [he, extTab] at hx
  cases hm : memNat g l with
  | false => rw [hm] at hx; cases hx
  | true =>
    rw [hm] at hx
    simp only [cond_true, Option.some.injEq] at hx
    subst hx
    obtain ⟨fn, tS, tR, e, h1, h2, h3, h4, h5, h6, h7⟩ := hl g (memNat_iff.1 hm)
    obtain ⟨inf, h7⟩ := Option.isSome_iff_exists.1 h7
    left
    obtain ⟨i, o, la, ca, j, o', lb, cb, rfl, hij, hla, hlb, ⟨e1, cs1, hg1, ho⟩, ⟨e2, cs2, ro, hg2⟩, hkt, hkf⟩ := ovRun_inv hk
    obtain ⟨x1, r1, hr1, hx1, hrest⟩ := ha.of_cons
    obtain ⟨x2, r2, hr2, hx2, hrest2⟩ := hrest.of_cons
    have hr3 := hrest2.of_nil
    subst hr3
    subst hr2
    obtain rfl : as = #[x1, x2] := by
      apply Array.ext'
      rw [hr1]
    obtain ⟨b1, hb1, cs1', fz1, hc1, hv1, _, hfz⟩ := hr.obj i _ hg1
    obtain ⟨b2, hb2, cs2', fz2, hc2, _⟩ := hr.obj j _ hg2
    have hne : b1 ≠ b2 := by
      intro hb
      subst hb
      exact hij (hr.inj i j _ _ b1 hg1 hg2 rfl hb1 hb2)
    rcases hx1.slice_eq with ⟨b, hb, rfl⟩ | ⟨h0, _⟩
    rotate_left
    · omega
    rcases hx2.slice_eq with ⟨b', hb', rfl⟩ | ⟨h0, _⟩
    rotate_left
    · omega
    rw [hb1] at hb
    rw [hb2] at hb'
    cases hb
    cases hb'
    have hlen : cs1'.size = cs1.length := by have := hv1.1; simp at this; omega
    have hfa : w.frozen? ⟨b1, o, none⟩ = false := by
      simp only [World.frozen?, hc1]
      rcases hfz rfl with h | h
      · rw [h]
        by_cases hh : fz1.2 ≤ o
        · have : ¬ o < fz1.2 := by omega
          simp [this]
        · simp [hh]
      · have : ¬ fz1.1 ≤ o := by omega
        simp [this]
    obtain ⟨r, w', hrun, hw⟩ := run_overlaps (P := E.P) (w := w) (tR := tR) h6 (size := inf.size) (fun w => by simp [sizeOf, typeInfo, h7]) (a := ⟨b1, o, none⟩) (b := ⟨b2, o', none⟩) (la := la) (ca := ca) (lb := lb) (cb := cb) hne
      (tA := e1) (kA := cs1'.size) (tB := e2) (kB := cs2'.size) (by simp [World.shape?, hc1]) (by simp [World.shape?, hc2]) hfa
    have hK : K (.bool r) H := by cases r <;> assumption
    have hheap : w'.heap = w.heap := by rcases hw with rfl | rfl <;> rfl
    refine ⟨.bool r, .bool r, w', H, ρ, ?_, hK, .bool _, hr.heap hheap, ?_⟩
    · rw [run_callFunc_extern h1 h2 h3 h4 h5, hrun]; rfl
    · rcases hw with rfl | rfl
      · exact .refl ..
      · exact ⟨.refl ρ, fun _ _ _ => rfl, fun _ h => .inl h, fun _ h => .inl h, Nat.le_refl _, rfl, rfl, rfl⟩

end Go.Am
