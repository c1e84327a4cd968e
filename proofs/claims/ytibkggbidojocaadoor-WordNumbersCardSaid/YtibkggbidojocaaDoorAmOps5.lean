/- Each operation that touches no memory, all of them; what is filled into a struct or an array. -/
import Derived.Test.YtibkggbidojocaaDoorAmOps4
namespace Go.Am
set_option linter.unusedSimpArgs false
set_option linter.unusedVariables false
set_option linter.unusedSectionVars false

def setManyL : List Value → Nat → List Value → List Value
  | cs, _, [] => cs
  | cs, off, v :: vs => setManyL (cs.set off v) (off + 1) vs

theorem setMany_rel {ρ : Ren} : ∀ {vs : List V} {us : List Value} {cs : List V} {cs' : List Value} {off : Nat}, VRs ρ vs us → VRs ρ cs cs' → VRs ρ (setMany cs off vs) (setManyL cs' off us)
  | [], us, cs, cs', off, h, hc => by rw [h.of_nil]; exact hc
  | v :: vs, us, cs, cs', off, h, hc => by
    obtain ⟨u, m, rfl, h1, h2⟩ := h.of_cons
    have := setMany_rel (off := off + 1) h2 (setMany_VRs (off := off) h1 hc)
    exact this

theorem setManyL_length : ∀ (us : List Value) (cs : List Value) (off : Nat), (setManyL cs off us).length = cs.length
  | [], _, _ => rfl
  | u :: us, cs, off => by rw [setManyL, setManyL_length us]; simp

theorem foldl_set (off : Nat) : ∀ (us : List Value) (k : Nat) (cells : Array Value),
    ((us.zipIdx k).foldl (fun (cs : Array Value) (p : Value × Nat) => cs.setIfInBounds (off + p.2) p.1) cells).toList = setManyL cells.toList (off + k) us
  | [], _, _ => rfl
  | u :: us, k, cells => by
    rw [List.zipIdx_cons, List.foldl_cons, foldl_set off us (k + 1), setManyL]
    simp [Nat.add_assoc]

theorem foldl_set' (off : Nat) (us cells : Array Value) :
    (us.zipIdx.foldl (fun (cs : Array Value) (p : Value × Nat) => cs.setIfInBounds (off + p.2) p.1) cells).toList = setManyL cells.toList off us.toList := by
  rw [← Array.foldl_toList]
  have := foldl_set off us.toList 0 cells
  simpa using this

section
variable {E : Env} {ρ lam : Ren} {w : World}

theorem setV_one {v : V} (hv : v.one = true) : ∀ {cs : List V} {j n : Nat}, OneAll cs → OneAll (setV cs j n v)
  | [], _, _, h => h
  | c :: cs, j, n, h => by
    intro x hx
    rw [setV, condV_eq] at hx
    rcases List.mem_cons.1 hx with rfl | hx
    · split
      · exact hv
      · exact h c (List.mem_cons_self ..)
    · exact setV_one hv (fun y hy => h y (List.mem_cons_of_mem _ hy)) x hx

theorem setMany_one : ∀ {vs cs : List V} {off : Nat}, OneAll vs → OneAll cs → OneAll (setMany cs off vs)
  | [], _, _, _, h => h
  | v :: vs, cs, off, hv, h => by
    have := setMany_one (vs := vs) (off := off + 1) (fun y hy => hv y (List.mem_cons_of_mem _ hy)) (setV_one (n := off) (j := 0) (hv v (List.mem_cons_self ..)) h)
    exact this

theorem cellsFor_sound {t : TypeId} {v : V} {x : Value} {r : Bool} {vs : List V} (hv : VR ρ v x) (h : cellsFor E t v = some (r, vs)) (hr : r = true) :
    VRs ρ vs x.cells.toList ∧ OneAll vs := by
  unfold cellsFor at h
  split at h
  · cases h
  · rename_i n hn
    split at h
    · rename_i k hk
      cases hb : Nat.beq n 1
      · simp [hb] at h
      · simp only [hb, cond_true, Option.some.injEq, Prod.mk.injEq] at h
        obtain ⟨h1, rfl⟩ := h
        have h1 := V.one_of_isK (h1.trans hr)
        have h2 : v.cells = [v] := by cases v <;> first | rfl | simp [V.one] at h1
        refine ⟨h2 ▸ hv.cells (fun e => by rw [e] at h1; cases h1), fun c hc => ?_⟩
        simp only [List.mem_singleton] at hc
        subst hc
        exact h1
    · split at h
      · split at h
        · simp only [Option.some.injEq, Prod.mk.injEq] at h
          obtain ⟨h1, rfl⟩ := h
          obtain ⟨cs', rfl, h2, h3⟩ := hv.agg_iff
          exact ⟨h2, h3⟩
        · cases h
      · cases h

theorem cellsFor_size {t : TypeId} {v : V} {r : Bool} {vs : List V} (h : cellsFor E t v = some (r, vs)) (hr : r = true) : size E t = some vs.length := by
  unfold cellsFor at h
  split at h
  · cases h
  · rename_i n hn
    rw [hn]
    split at h
    · cases hb : Nat.beq n 1
      · simp [hb] at h
      · simp only [hb, cond_true, Option.some.injEq, Prod.mk.injEq] at h
        rw [← h.2, Nat.eq_of_beq_eq_true hb]; rfl
    · split at h
      · split at h
        · simp only [Option.some.injEq, Prod.mk.injEq] at h
          rw [← h.2, Nat.eq_of_beq_eq_true (h.1.trans hr)]
        · cases h
      · cases h

theorem fill_sound {place : Nat → Option (Nat × TypeId)} {place' : Nat → Option (Nat × Nat)} (hpl' : ∀ i off t n, place i = some (off, t) → size E t = some n → place' i = some (off, n)) :
    ∀ {ps : List (Nat × V)} {ps' : List (Nat × Value)} {cs out : List V} {cs' : Array Value} {r : Bool},
    ps.map (·.1) = ps'.map (·.1) → VRs ρ (ps.map (·.2)) (ps'.map (·.2)) → VRs ρ cs cs'.toList → OneAll cs → fillAll E place cs ps = some (r, out) → r = true →
    ∃ out', Instr.fill place' cs' ps' = some out' ∧ VRs ρ out out'.toList ∧ OneAll out
  | [], ps', cs, out, cs', r, h1, h2, hc, ho, h, hr => by
    cases ps' with
    | nil => simp only [fillAll, Option.some.injEq, Prod.mk.injEq] at h; obtain ⟨_, rfl⟩ := h; exact ⟨cs', rfl, hc, ho⟩
    | cons p l => simp at h1
  | (i, v) :: ps, ps', cs, out, cs', r, h1, h2, hc, ho, h, hr => by
    cases ps' with
    | nil => simp at h1
    | cons p l =>
      obtain ⟨j, u⟩ := p
      simp only [List.map_cons, List.cons.injEq] at h1 h2
      obtain ⟨rfl, h1⟩ := h1
      obtain ⟨u', m, he, hu, hm⟩ := h2.of_cons
      simp only [List.cons.injEq] at he
      obtain ⟨rfl, rfl⟩ := he
      simp only [fillAll] at h
      split at h
      · cases h
      · rename_i off t hpl
        split at h
        · rename_i r1 vs n hcf hsz
          cases hb : (Nat.beq vs.length n && Nat.ble (off + n) cs.length)
          · simp [hb] at h
          · simp only [hb, cond_true] at h
            split at h
            · rename_i r2 cs2 hrest
              simp only [Option.some.injEq, Prod.mk.injEq] at h
              obtain ⟨hrr, rfl⟩ := h
              rw [hr, Bool.and_eq_true] at hrr
              rw [Bool.and_eq_true] at hb
              have hb1 : vs.length = n := Nat.eq_of_beq_eq_true hb.1
              have hb2 : off + n ≤ cs.length := Nat.le_of_ble_eq_true hb.2
              obtain ⟨hvs, hone⟩ := cellsFor_sound hu hcf hrr.1
              have hus : u.cells.size = n := by have := hvs.1; simp at this; omega
              have hcs : cs'.size = cs.length := by have := hc.1; simp at this; omega
              obtain ⟨out', h3, h4, h5⟩ := fill_sound hpl' (cs' := u.cells.zipIdx.foldl (fun (cs : Array Value) (p : Value × Nat) => cs.setIfInBounds (off + p.2) p.1) cs') h1 hm
                (by rw [foldl_set']; exact setMany_rel hvs hc) (setMany_one hone ho) hrest hrr.2
              refine ⟨out', ?_, h4, h5⟩
              simp only [Instr.fill, hpl' _ _ _ _ hpl hsz]
              rw [if_neg (by simp [hus, hcs]; omega)]
              exact h3
            · cases h
        · cases h

theorem evParts_sound {ev : Ev} {e : Operand → Value} (hev : EvR ρ lam ev e) : ∀ {l : List (Nat × Operand)} {ps : List (Nat × V)}, evParts ev l = some ps →
    ps.map (·.1) = (l.map fun p => (p.1, e p.2)).map (·.1) ∧ VRs ρ (ps.map (·.2)) ((l.map fun p => (p.1, e p.2)).map (·.2))
  | [], ps, h => by simp only [evParts, Option.some.injEq] at h; subst h; exact ⟨rfl, .nil ρ⟩
  | (i, x) :: l, ps, h => by
    simp only [evParts] at h
    split at h
    · rename_i y m hy hm
      simp only [Option.some.injEq] at h
      subst h
      obtain ⟨h1, h2⟩ := evParts_sound hev hm
      exact ⟨by simp [h1], .cons (hev.v hy) h2⟩
    · cases h

theorem sizes_sound {w : World} : ∀ {l : List Field}, sizesOk E (l.map fun f => (f.offset, f.type)) = true →
    (l.mapM fun f => (do pure (f.offset, ← sizeOf f.type) : Sem (Nat × Nat))).run E.P w = .ok (l.map fun f => (f.offset, (size E f.type).getD 0)) w
  | [], h => by simp
  | f :: l, h => by
    simp only [List.map_cons, sizesOk, Bool.and_eq_true] at h
    obtain ⟨n, hn⟩ := Option.isSome_iff_exists.1 h.1
    have ih := sizes_sound (w := w) h.2
    simp only [List.mapM_cons, Sem.run_bind, run_size hn, Result.andThen_ok, Sem.run_pure, ih, hn, List.map_cons, Option.getD_some]

variable {dst : Option Tmp} {type : TypeId} {pos : String} {after : Array Edge} {guard : Option (Nat × Bool)} {ev : Ev} {e : Operand → Value} {d : Dec T}

theorem pure_build {t : TypeId} {parts : Array (Nat × Operand)} (hev : EvR ρ lam ev e) (h : pureOp E (.build t parts) ev = some d) (hr : d.rq = true) :
    Comes' E ρ lam w ⟨dst, .build t parts, type, pos, after, guard⟩ e (if d.c = true then d.x else d.y) := by
  simp only [pureOp] at h
  split at h
  · rename_i ti pl ps hti hpl hps
    obtain ⟨inf, dt, hi, hu, hd, _, _, hz⟩ := ti_spec hti
    split at h
    · rename_i z hz'
      rw [hz'] at hz
      obtain ⟨z', hz1, hz2⟩ := Option.bind_eq_some_iff.1 hz
      have hzero : (zeroValue t).run E.P w = .ok z' w := by simp [zeroValue, typeInfo, hi, hz1]
      obtain ⟨zc, rfl, hzc, hz1c⟩ := (ofValueA_VR (ρ := ρ) hz2).agg_iff
      split at h
      · rename_i r cs hcs
        simp only [Option.some.injEq] at h
        subst h
        obtain ⟨h1, h2⟩ := evParts_sound hev hps
        have hparts : (parts.map fun p => (p.1, e p.2)).toList = parts.toList.map fun p => (p.1, e p.2) := by simp
        unfold placesOf at hpl
        rw [hti] at hpl
        simp only [] at hpl
        split at hpl
        · rename_i fs hs
          rw [hs] at hd
          obtain ⟨f, rfl, rfl⟩ := desc_struct hd
          cases hok : sizesOk E (f.toList.map fun f => (f.offset, f.type))
          · simp [hok] at hpl
          · simp only [hok, cond_true, Option.some.injEq] at hpl
            subst hpl
            obtain ⟨out', h3, h4, h5⟩ := fill_sound (place' := fun j => (f.toList.map fun f => (f.offset, (size E f.type).getD 0))[j]?) (by
              intro i off t n hp hn
              simp only [List.getElem?_map, Option.map_eq_some_iff, Prod.mk.injEq] at hp ⊢
              obtain ⟨fd, h1, h2, h3⟩ := hp
              exact ⟨fd, h1, h2, by rw [h3, hn]; rfl⟩) h1 h2 hzc hz1c hcs hr
            refine ⟨.agg out', ?_, .v (.mk_agg h5 h4)⟩
            have hm := sizes_sound (E := E) (w := w) hok
            have hm' : (f.mapM fun f => (do pure (f.offset, ← sizeOf f.type) : Sem (Nat × Nat))).run E.P w = .ok (f.toList.map fun f => (f.offset, (size E f.type).getD 0)).toArray w := by
              rw [← Array.toArray_toList (xs := f), List.mapM_toArray]
              simp only [Sem.run_map, hm, Result.andThen_ok]
            have h3' : Instr.fill (fun x => (f.toList.map fun f => (f.offset, (size E f.type).getD 0)).toArray[x]?) zc (parts.map fun p => (p.1, e p.2)).toList = some out' := by
              rw [hparts, ← h3]; congr 1; funext x; simp
            simp only [Instr.build, execOp, Sem.run_bind, hzero, Result.andThen_ok, run_underlying hu, hm', Value.cells]
            simp only [h3', Sem.run_pure, Result.andThen_ok]
        · rename_i n el hs
          rw [hs] at hd
          cases desc_arr hd
          split at hpl
          · rename_i sz hsz
            simp only [Option.some.injEq] at hpl
            subst hpl
            obtain ⟨out', h3, h4, h5⟩ := fill_sound (place' := fun j => some (j * sz, sz)) (by
              intro i off t n hp hn
              simp only [Option.some.injEq, Prod.mk.injEq] at hp ⊢
              obtain ⟨h1, rfl⟩ := hp
              rw [hsz] at hn
              exact ⟨h1, Option.some.inj hn⟩) h1 h2 hzc hz1c hcs hr
            refine ⟨.agg out', ?_, .v (.mk_agg h5 h4)⟩
            rw [← hparts] at h3
            simp only [Instr.build, execOp, Sem.run_bind, hzero, Result.andThen_ok, run_underlying hu, run_size hsz, Value.cells]
            simp only [h3, Sem.run_pure, Result.andThen_ok]
          · cases hpl
        · cases hpl
      · cases h
    · cases h
  · cases h

/-- All of them. -/
theorem pureOp_sound {o : Oper} (hev : EvR ρ lam ev e) (h : pureOp E o.op ev = some d) (hr : d.rq = true) :
    ∃ v, (execOp e o).run E.P w = .ok (.value v) w ∧ TR ρ lam (if d.c = true then d.x else d.y) v := by
  obtain ⟨dst, op, type, pos, after, guard⟩ := o
  cases op with
  | move x => exact pure_move hev h
  | assign x => exact pure_assign hev h
  | pick c a b => exact pure_pick hev h
  | binOp op t x y yt => exact pure_bin hev h hr
  | unOp op t x => exact pure_un hev h
  | convert s t x => exact pure_convert hev h
  | nilCheck x => exact pure_nilCheck hev h hr
  | fieldAddr t x f => exact pure_fieldAddr hev h
  | field t x f => exact pure_field hev h hr
  | indexAddr t x i => exact pure_indexAddr hev h hr
  | index t x i => exact pure_index hev h hr
  | slice t x lo hi mx => exact pure_slice hev h hr
  | makeInterface t x => exact pure_makeInterface hev h
  | makeFunc f first captured => exact pure_makeFunc hev h
  | extract x i => exact pure_extract hev h
  | build t parts => exact pure_build hev h hr
  | typeAssert x xt t ok => exact pure_typeAssert hev h hr
  | call c => exact pure_call hev h
  | _ => simp [pureOp] at h

end
end Go.Am
