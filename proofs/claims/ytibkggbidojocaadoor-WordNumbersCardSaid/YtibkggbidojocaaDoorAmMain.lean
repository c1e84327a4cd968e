/- The abstract machine is sound: what it promises of a call holds in the machine. -/
import Derived.Test.YtibkggbidojocaaDoorAmSound3
namespace Go.Am
set_option linter.unusedSimpArgs false
set_option linter.unusedVariables false
set_option linter.unusedSectionVars false

section
variable {E : Env} {H0 : Heap} {ρ0 : Ren} {w0 : World} {ann : Ann} {N : Nat} {ρ lam : Ren} {S : St} {a : Act} {w : World} {R : Rec}

def resultOf (tmps : Array Value) : ResultVar → Sem Value
  | .tmp t => pure (tmps.getD t undef)
  | .cell a t => do loadVar t (← asAddr (tmps.getD a undef))

theorem loadAt_of_exec {e : Operand → Value} {t : TypeId} {x : Operand} {dst : Option Tmp} {type : TypeId} {pos : String} {after : Array Edge} {guard : Option (Nat × Bool)} {v : Value}
    (h : (execOp e ⟨dst, .load t x, type, pos, after, guard⟩).run E.P w = .ok (.value v) w) : (Instr.loadAt t (e x)).run E.P w = .ok v w := by
  simp only [execOp, Sem.run_bind] at h
  cases hr : (Instr.loadAt t (e x)).run E.P w with
  | ok y w' =>
    rw [hr] at h
    simp only [Result.andThen_ok, Sem.run_pure, Result.ok.injEq, Next.value.injEq] at h
    rw [h.1, h.2]
  | halt y w' => rw [hr] at h; simp at h

theorem result1_sound (h : SR H0 ρ0 w0 ann N ρ lam S a w) {r : ResultVar} {K : V → Prop} (hk : result1 E S r K) :
    ∃ x v, (resultOf a.tmps r).run E.P w = .ok v w ∧ VR ρ x v ∧ K x := by
  unfold result1 at hk
  split at hk
  · rename_i t
    split at hk
    · rename_i x hx
      have ht := h.tm t _ hx
      generalize hq : a.tmps.getD t undef = q at ht
      cases ht with
      | v hv => exact ⟨x, q, by simp only [resultOf, hq]; rfl, hv, hk⟩
    · exact hk.elim
  · rename_i ad t
    split at hk
    · rename_i s off hs
      split at hk
      · rename_i el cs hlo
        split at hk
        · rename_i r v hv
          obtain ⟨hr, hk⟩ := req_elim hk
          obtain ⟨b, hb, hc, _⟩ := h.lo s _ hlo
          obtain ⟨b', hb', he⟩ := h.ev.lp (x := .tmp ad) hs
          rw [hb] at hb'
          cases hb'
          obtain ⟨v', h1, h2⟩ := load_sound (E := E) hc hv hr (fun _ _ => .inl rfl)
          have he' : a.tmps.getD ad undef = .pointer (some ⟨b, off, none⟩) := he
          exact ⟨v, v', by simp only [resultOf, he', asAddr, Sem.run_bind, Sem.run_pure, Result.andThen_ok, h1], h2, hk⟩
        · exact hk.elim
      · exact hk.elim
    · split at hk
      · rename_i d hd
        obtain ⟨hr, hk⟩ := Dec.run_elim hk
        obtain ⟨v, h1, h2⟩ := hread_sound (o := ⟨none, .load t (.tmp ad), 0, "", #[], none⟩) (w := w) h.ev h.hr hd hr
        have h3 := loadAt_of_exec h1
        split at hk
        · rename_i y hy
          rw [hy] at h2
          cases h2 with
          | v hv =>
            refine ⟨y, v, ?_, hv, hk⟩
            simp only [Instr.loadAt, Sem.run_bind] at h3
            simp only [resultOf, Sem.run_bind]
            change _ = _ at h3
            have he : a.eval (.tmp ad) = a.tmps.getD ad undef := rfl
            rw [he] at h3
            generalize a.tmps.getD ad undef = q at h3 ⊢
            cases q with
            | pointer p => cases p with
              | some p => exact h3
              | none => simp [Instr.sureAddr] at h3
            | _ => simp [Instr.sureAddr] at h3
        · exact hk.elim
      · exact hk.elim

theorem resultsA_sound (h : SR H0 ρ0 w0 ann N ρ lam S a w) : ∀ {l : List ResultVar} {K : List V → Prop}, resultsA E S l K →
    ∃ xs vs, (l.mapM (resultOf a.tmps)).run E.P w = .ok vs w ∧ VRs ρ xs vs ∧ K xs
  | [], K, hk => ⟨[], [], by simp, .nil ρ, hk⟩
  | r :: l, K, hk => by
    obtain ⟨x, v, h1, h2, hk⟩ := result1_sound h hk
    obtain ⟨xs, vs, h3, h4, hk⟩ := resultsA_sound h hk
    exact ⟨x :: xs, v :: vs, by simp only [List.mapM_cons, Sem.run_bind, h1, h3, Result.andThen_ok, Sem.run_pure], .cons h2 h4, hk⟩

theorem retK_sound (h : SR H0 ρ0 w0 ann N ρ lam S a w) {fn : Func} {K : V → Heap → Prop} (hk : retK E fn K S) :
    ∃ x v, (results fn a.tmps).run E.P w = .ok v w ∧ VR ρ x v ∧ K x S.hp := by
  obtain ⟨xs, vs, h1, h2, hk⟩ := resultsA_sound h hk
  have hrun : (results fn a.tmps).run E.P w = .ok (if h : vs.toArray.size = 1 then vs.toArray[0] else .tuple vs.toArray) w := by
    have h0 : results fn a.tmps = (fn.results.mapM (resultOf a.tmps)) >>= fun vs => pure (if h : vs.size = 1 then vs[0] else .tuple vs) := by
      unfold results
      congr 1
    have h' : (fn.results.mapM (resultOf a.tmps)).run E.P w = .ok vs.toArray w := by
      rw [← Array.toArray_toList (xs := fn.results), List.mapM_toArray]
      simp only [Sem.run_map, h1, Result.andThen_ok]
    rw [h0, Sem.run_bind, h']
    rfl
  cases xs with
  | nil => rw [h2.of_nil] at hrun; exact ⟨.tuple [], .tuple #[], by simpa using hrun, .mk_tuple (.nil ρ), hk⟩
  | cons x l =>
    obtain ⟨v, m, rfl, h3, h4⟩ := h2.of_cons
    cases l with
    | nil =>
      rw [h4.of_nil] at hrun
      exact ⟨x, v, by simpa using hrun, h3, hk⟩
    | cons y l =>
      have hl : (v :: m).toArray.size ≠ 1 := by have := h2.1; simp at this ⊢; intro e; rw [e] at this; simp at this
      rw [dif_neg hl] at hrun
      exact ⟨.tuple (x :: y :: l), .tuple (v :: m).toArray, hrun, .mk_tuple (by simpa using h2), hk⟩

theorem argsT_spec : ∀ {l : List V} {j t : Nat} {x : T}, argsT l j t = some x → ∃ v, x = .v v ∧ j ≤ t ∧ l[t - j]? = some v
  | [], j, t, x, h => by cases h
  | v :: l, j, t, x, h => by
    simp only [argsT, beq_iff] at h
    by_cases he : t = j
    · simp only [he, decide_true, cond_true, Option.some.injEq] at h
      exact ⟨v, h.symm, by omega, by simp [he]⟩
    · simp only [he, decide_false, cond_false] at h
      obtain ⟨u, h1, h2, h3⟩ := argsT_spec h
      refine ⟨u, h1, by omega, ?_⟩
      rw [show t - j = t - (j + 1) + 1 by omega]
      simpa using h3

theorem F_call_sound (hR : Sound E R) (hm : E.P.follows .mixedOrders = true) {f : FuncId} {args : List V} {H : Heap} {K : V → Heap → Prop} (h : (F E R).call f args H K) :
    SoundCall E f args H K ∧ ∃ fn, E.P.funcs[f]? = some fn ∧ fn.body.isSome = true := by
  simp only [F] at h
  split at h
  · rename_i fn hf
    have hf := E.fn_ok f fn hf
    split at h
    · rename_i c hb
      obtain ⟨hn, hx⟩ := req_elim h
      refine ⟨?_, fn, hf, by rw [hb]; rfl⟩
      intro ρ w as hr has
      have hlen : as.size ≤ fn.ntmps := by
        have h1 := has.1
        have h2 := Nat.le_of_ble_eq_true hn
        simp at h1
        omega
      have hsr : SR H ρ w (E.ann f) fn.ntmps ρ (fun _ => none) ⟨argsT args 0, fun _ => none, H⟩ { tmps := as ++ Array.replicate (fn.ntmps - as.size) undef, defers := [] } w := by
        refine ⟨rfl, by simp; omega, ?_, ?_, (fun s L hL => by cases hL), (fun s s' L L' b hL => by cases hL), hr, .refl H ρ w⟩
        · intro t x hx
          obtain ⟨v, rfl, _, h2⟩ := argsT_spec hx
          rw [Nat.sub_zero] at h2
          have hlt : t < args.length := by
            rcases Nat.lt_or_ge t args.length with h | h
            · exact h
            · rw [List.getElem?_eq_none h] at h2; cases h2
          have hlt' : t < as.size := by have := has.1; simp at this; omega
          refine .v (has.2 t v _ h2 ?_)
          rw [Array.getD_eq_getD_getElem?, Array.getElem?_append_left hlt', Array.getElem?_eq_getElem hlt']
          simp [hlt']
        · intro t s off hx
          obtain ⟨v, h1, _⟩ := argsT_spec hx
          cases h1
      refine calls_of_wp hf hb (exec_sound (H0 := H) (ρ0 := ρ) (w0 := w) hR hm hf rfl rfl c 0 _ _ _ _ _ _ _ hx hsr ?_)
      intro e S' ρ' lam' a' w' h' hk
      have key : retK E fn K S' → a'.defers = [] ∧ ∃ v, (results fn a'.tmps).run E.P w' = .ok v w' ∧ CallPost H ρ w K (.returned v) w' := by
        intro hk
        obtain ⟨x, v, h1, h2, h3⟩ := retK_sound h' hk
        exact ⟨h'.defers, v, h1, x, v, S'.hp, ρ', rfl, h3, h2, h'.hr, h'.since⟩
      cases e with
      | normal => exact key hk
      | exit id => exact hk.elim
      | ret => exact key hk
    · exact h.elim
  · exact h.elim

theorem F_loop_sound (hR : Sound E R) (hm : E.P.follows .mixedOrders = true) {c : Code} {f : FuncId} {n : Nat} {S : St} {Kr : St → Prop} {Ke : Nat → St → Prop}
    (h : (F E R).loop c f n S Kr Ke) : SoundLoop E c f S Kr Ke := by
  simp only [F] at h
  split at h
  · rename_i fn kp hf hkp
    have hf := E.fn_ok f fn hf
    intro fn' H0 ρ0 w0 ρ lam a w Q hf' hsr hr he
    rw [hf] at hf'
    cases hf'
    refine wpIn_round (exec_sound (H0 := H0) (ρ0 := ρ0) (w0 := w0) hR hm hf rfl rfl c _ _ _ _ _ _ _ _ h hsr ?_)
    intro e S' ρ' lam' a' w' h' hk
    cases e with
    | normal =>
      obtain ⟨S0, h0, hk⟩ := normK_sound h' hk
      exact hR.loop _ _ _ _ _ _ hk fn H0 ρ0 w0 ρ' lam' a' w' Q hf h0 hr he
    | exit id =>
      obtain ⟨S0, h0, hk⟩ := normK_sound h' hk
      exact he id _ _ _ _ _ h0 hk
    | ret =>
      obtain ⟨S0, h0, hk⟩ := normK_sound h' hk
      exact hr _ _ _ _ _ h0 hk
  · exact h.elim

/-- What the least fixpoint promises, the machine bears out. -/
theorem Run_sound (hX : ExtSound E) (hm : E.P.follows .mixedOrders = true) : Sound E (Run E) := by
  have mono_call : ∀ {f : FuncId} {args : List V} {H : Heap} {K K' : V → Heap → Prop}, (∀ v H', K v H' → K' v H') → SoundCall E f args H K → SoundCall E f args H K' := by
    intro f args H K K' hk h ρ w as hr has
    refine (h ρ w as hr has).mono ?_
    rintro e w' ⟨v, v', H', ρ', h1, h2, h3⟩
    exact ⟨v, v', H', ρ', h1, hk _ _ h2, h3⟩
  have mono_loop : ∀ {c : Code} {f : FuncId} {S : St} {Kr Kr' : St → Prop} {Ke Ke' : Nat → St → Prop}, (∀ S, Kr S → Kr' S) → (∀ i S, Ke i S → Ke' i S) → SoundLoop E c f S Kr Ke → SoundLoop E c f S Kr' Ke' := by
    intro c f S Kr Kr' Ke Ke' h1 h2 h fn H0 ρ0 w0 ρ lam a w Q hf hsr hr he
    exact h fn H0 ρ0 w0 ρ lam a w Q hf hsr (fun S' ρ' lam' a' w' h' hk => hr S' ρ' lam' a' w' h' (h1 _ hk)) (fun id S' ρ' lam' a' w' h' hk => he id S' ρ' lam' a' w' h' (h2 _ _ hk))
  let G : Rec :=
    { call := fun f args H K => (Run E).call f args H K ∧ SoundCall E f args H K ∧ ∃ fn, E.P.funcs[f]? = some fn ∧ fn.body.isSome = true
      loop := fun c f n S Kr Ke => (Run E).loop c f n S Kr Ke ∧ SoundLoop E c f S Kr Ke }
  have hGR : G.le (Run E) := ⟨fun f args H K K' hk h => Run_mono.call _ _ _ _ _ hk h.1, fun c f n S Kr Kr' Ke Ke' h1 h2 h => Run_mono.loop _ _ _ _ _ _ _ _ h1 h2 h.1⟩
  have hGm : G.le G := ⟨fun f args H K K' hk h => ⟨Run_mono.call _ _ _ _ _ hk h.1, mono_call hk h.2.1, h.2.2⟩,
    fun c f n S Kr Kr' Ke Ke' h1 h2 h => ⟨Run_mono.loop _ _ _ _ _ _ _ _ h1 h2 h.1, mono_loop h1 h2 h.2⟩⟩
  have hGs : Sound E G := ⟨fun f args H K h => h.2.1, fun f args H K h => h.2.2, fun c f n S Kr Ke h => h.2, hGm,
    ⟨fun f args H K h => Run_strict.call _ _ _ _ h.1, fun c f n S Kr Ke h => Run_strict.loop _ _ _ _ _ _ h.1⟩, hX⟩
  have hFG : (F E G).le G :=
    ⟨fun f args H K K' hk h => hGm.call _ _ _ _ _ hk ⟨F_Run_le.call _ _ _ _ _ (fun _ _ => id) ((F_mono hGR).call _ _ _ _ _ (fun _ _ => id) h), F_call_sound hGs hm h⟩,
     fun c f n S Kr Kr' Ke Ke' h1 h2 h => hGm.loop _ _ _ _ _ _ _ _ h1 h2 ⟨F_Run_le.loop _ _ _ _ _ _ _ _ (fun _ => id) (fun _ _ => id) ((F_mono hGR).loop _ _ _ _ _ _ _ _ (fun _ => id) (fun _ _ => id) h), F_loop_sound hGs hm h⟩⟩
  have hle := Run_le hGm hFG
  exact ⟨fun f args H K h => (hle.call _ _ _ _ _ (fun _ _ => id) h).2.1, fun f args H K h => (hle.call _ _ _ _ _ (fun _ _ => id) h).2.2,
    fun c f n S Kr Ke h => (hle.loop _ _ _ _ _ _ _ _ (fun _ => id) (fun _ _ => id) h).2, Run_mono, Run_strict, hX⟩

#print axioms Run_sound

end

/-- The loop that has that number. -/
def findLoop : Code → Nat → Nat → Option Code
  | .seq a b, n, m => match findLoop a n m with | some c => some c | none => findLoop b (n + cnt a) m
  | .cond _ a b, n, m => match findLoop a (n + 1) m with | some c => some c | none => findLoop b (n + 1 + cnt a) m
  | .block _ b, n, m => findLoop b n m
  | .scope b, n, m => findLoop b n m
  | .loop b, n, m => bif Nat.beq n m then some b else findLoop b (n + 1) m
  | _, _, _ => none

def loopAt (E : Env) (f n : Nat) : Code :=
  match E.fn f with
  | some fn => match fn.body with | some c => (findLoop c 0 n).getD .skip | none => .skip
  | none => .skip

end Go.Am
