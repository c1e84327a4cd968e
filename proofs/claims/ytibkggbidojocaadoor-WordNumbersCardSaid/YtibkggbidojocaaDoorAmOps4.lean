/- Each operation that touches no memory: what the abstract machine says of it holds in the machine. -/
import Derived.Test.YtibkggbidojocaaDoorAmOps3
namespace Go.Am
set_option linter.unusedSimpArgs false
set_option linter.unusedVariables false
set_option linter.unusedSectionVars false

section
variable {E : Env} {ρ lam : Ren} {w : World}
variable {dst : Option Tmp} {type : TypeId} {pos : String} {after : Array Edge} {guard : Option (Nat × Bool)} {ev : Ev} {e : Operand → Value} {d : Dec T}

theorem ptrAdd_slice {p : Option (Nat × Nat)} {len cap : Nat} {x : Value} (h : VR ρ (.slice p len cap) x) :
    ∃ a : Option Addr, x = .slice a len cap ∧ ∀ n l c, (len = 0 → cap = 0 → l = 0 ∧ c = 0) → VR ρ (.slice (ptrAdd p n) l c) (.slice (a.map (·.add n)) l c) ∧ VR ρ (.slice p l c) (.slice a l c) := by
  cases p with
  | none => exact ⟨none, h.slice_none, fun n l c _ => ⟨.sliceNil l c, .sliceNil l c⟩⟩
  | some q =>
    obtain ⟨id, off⟩ := q
    rcases h.slice_eq with ⟨b, hb, hx⟩ | ⟨h0, h1, a, hx⟩
    · exact ⟨_, hx, fun n l c _ => ⟨by simp only [ptrAdd, Option.map_some, add_addr]; exact .slice l c hb, .slice l c hb⟩⟩
    · subst h0 h1
      refine ⟨_, hx, fun n l c hz => ?_⟩
      obtain ⟨rfl, rfl⟩ := hz rfl rfl
      exact ⟨.slice0 _ _, .slice0 _ _⟩

theorem bounds_zero {ev : Ev} {lo hi mx : Option Operand} {r : Bool} {l h m : Nat} (hb : bounds3 ev 0 0 lo hi mx = some (r, l, h, m)) (hr : r = true) : h - l = 0 ∧ m - l = 0 := by
  unfold bounds3 at hb
  cases hq : (hi.isNone && mx.isSome)
  · simp only [hq, cond_false] at hb
    split at hb
    · rename_i m1 hm
      split at hb
      · rename_i h1 hh
        split at hb
        · rename_i l1 hl
          simp only [Option.some.injEq, Prod.mk.injEq] at hb
          obtain ⟨hrr, rfl, rfl, rfl⟩ := hb
          rw [hr] at hrr
          simp only [Bool.and_eq_true] at hrr
          have key : ∀ {x : Option Operand} {d most : Nat} {q : Bool × Nat}, bound1 ev x d most = some q → q.1 = true → q.2 = d ∨ q.2 ≤ most := by
            intro x d most q hx hq
            unfold bound1 at hx
            split at hx
            · simp only [Option.some.injEq] at hx; subst hx; exact .inl rfl
            · split at hx
              · simp only [Option.some.injEq] at hx
                subst hx
                simp only [Bool.and_eq_true, decide_eq_true_eq] at hq
                exact .inr (by simp only; omega)
              · cases hx
          have k1 := key hm hrr.1.1
          have k2 := key hh hrr.1.2
          omega
        · cases hb
      · cases hb
    · cases hb
  · simp [hq] at hb

theorem pure_slice {t : TypeId} {x : Operand} {lo hi mx : Option Operand} (hev : EvR ρ lam ev e) (h : pureOp E (.slice t x lo hi mx) ev = some d) (hr : d.rq = true) :
    Comes' E ρ lam w ⟨dst, .slice t x lo hi mx, type, pos, after, guard⟩ e (if d.c = true then d.x else d.y) := by
  simp only [pureOp] at h
  split at h
  · rename_i ti s hti hx
    obtain ⟨dt, hu, hd⟩ := shape_ti hti
    split at h
    · rename_i hs
      rw [hs] at hd
      cases desc_str hd
      split at h
      · rename_i r l hh m hb
        simp only [Option.some.injEq] at h
        subst h
        have hb' := bounds_sound (E := E) (isS := false) hev hb hr w
        simp only [Option.map_none] at hb'
        exact ⟨.string (s.extract l hh), by simp [execOp, Instr.sliceAt, Instr.slice, run_underlying hu, (hev.tv hx).str_eq, hb'], .v (.str _)⟩
      · cases h
    · cases h
  · rename_i ti p len cap hti hx
    obtain ⟨dt, hu, hd⟩ := shape_ti hti
    split at h
    · rename_i el hs
      rw [hs] at hd
      cases desc_slice hd
      split at h
      · rename_i r l hh m sz hb hsz
        simp only [Option.some.injEq] at h
        subst h
        simp only [Dec.one, Bool.and_eq_true] at hr
        have hle := Nat.le_of_ble_eq_true hr.2
        have hb' := bounds_sound (E := E) (isS := true) hev hb hr.1 w
        obtain ⟨a, he, hv⟩ := ptrAdd_slice (hev.tv hx)
        obtain ⟨h1, h2⟩ := hv (l * sz) (hh - l) (m - l) (fun h0 h1 => by subst h0 h1; exact bounds_zero hb hr.1)
        refine ⟨.slice (if m = l then a else a.map (·.add (l * sz))) (hh - l) (m - l), by simp [execOp, Instr.sliceAt, Instr.slice, run_underlying hu, he, hb', run_size hsz], ?_⟩
        simp only [Dec.one, if_true]
        by_cases hml : m = l
        · rw [if_pos hml]
          have e1 : hh - l = 0 := by omega
          have e2 : m - l = 0 := by omega
          rw [e1, e2] at h2 ⊢
          cases p with
          | none => exact .v h2
          | some q =>
            obtain ⟨id, off⟩ := q
            cases a with
            | none => cases h2
            | some a => exact .v (.slice0 _ _)
        · rw [if_neg hml]; exact .v h1
      · cases h
    · cases h
  · rename_i ti id off hti hx
    obtain ⟨dt, hu, hd⟩ := shape_ti hti
    split at h
    · rename_i n el hs
      rw [hs] at hd
      cases desc_arr hd
      split at h
      · rename_i r l hh m sz hb hsz
        simp only [Option.some.injEq] at h
        subst h
        simp only [Dec.one, Bool.and_eq_true] at hr
        have hle := Nat.le_of_ble_eq_true hr.2
        have hb' := bounds_sound (E := E) (isS := false) hev hb hr.1 w
        obtain ⟨b, hbb, he⟩ := (hev.tv hx).ptr_eq
        refine ⟨.slice (some (if m = l then ⟨b, off, none⟩ else ⟨b, off + l * sz, none⟩)) (hh - l) (m - l), by simp [execOp, Instr.sliceAt, run_underlying hu, he, Instr.sureAddr, hb', run_size hsz, add_addr], ?_⟩
        simp only [Dec.one, if_true]
        by_cases hml : m = l
        · have e1 : hh - l = 0 := by omega
          have e2 : m - l = 0 := by omega
          rw [e1, e2]
          exact .v (.slice0 _ _)
        · rw [if_neg hml]; exact .v (.slice _ _ hbb)
      · cases h
    · cases h
  · cases h

theorem pure_makeInterface {t : TypeId} {x : Operand} (hev : EvR ρ lam ev e) (h : pureOp E (.makeInterface t x) ev = some d) :
    Comes' E ρ lam w ⟨dst, .makeInterface t x, type, pos, after, guard⟩ e (if d.c = true then d.x else d.y) := by
  simp only [pureOp] at h
  split at h
  · cases h
  · rename_i v hx hk
    split at h
    · rename_i ti hti
      simp only [Option.some.injEq] at h
      subst h
      obtain ⟨dt, hu, hd⟩ := shape_ti hti
      have hni : ∀ ms, dt ≠ .interface ms := by
        rintro ms rfl
        apply hk
        simp [kindOf, hti, ← hd, shapeOf, shapeK]
      refine ⟨.iface t (e x), ?_, .v (.iface t (hev.v hx))⟩
      cases dt <;> simp [execOp, Instr.makeInterface, run_underlying hu]
      exact (hni _ rfl).elim
    · cases h
  · cases h

theorem pure_makeFunc {f : Fn} {first captured : Array Operand} (hev : EvR ρ lam ev e) (h : pureOp E (.makeFunc f first captured) ev = some d) :
    Comes' E ρ lam w ⟨dst, .makeFunc f first captured, type, pos, after, guard⟩ e (if d.c = true then d.x else d.y) := by
  cases f with
  | func f =>
    simp only [pureOp] at h
    split at h
    · rename_i cs hf hc
      simp only [Option.some.injEq] at h
      subst h
      have h1 : first = #[] := by apply Array.ext'; simpa using hf
      refine ⟨.func (.func f) #[] (captured.map e), by simp [execOp, Instr.makeFunc, h1], .v (.mk_func ?_)⟩
      simpa using hev.vs hc
    · cases h
  | _ => simp [pureOp] at h

theorem pure_extract {x : Operand} {i : Nat} (hev : EvR ρ lam ev e) (h : pureOp E (.extract x i) ev = some d) :
    Comes' E ρ lam w ⟨dst, .extract x i, type, pos, after, guard⟩ e (if d.c = true then d.x else d.y) := by
  simp only [pureOp] at h
  split at h
  · rename_i vs hx
    split at h
    · rename_i v hv
      simp only [Option.some.injEq] at h
      subst h
      obtain ⟨vs', he, hvs⟩ := (hev.v hx).tuple_iff
      have hlt : i < vs.length := by
        rcases Nat.lt_or_ge i vs.length with h | h
        · exact h
        · rw [List.getElem?_eq_none h] at hv; cases hv
      have hlt' : i < vs'.size := by have := hvs.1; simp at this; omega
      refine ⟨vs'[i], by simp [execOp, Instr.extract, he, Array.getElem?_eq_getElem hlt'], .v (hvs.2 i _ _ hv ?_)⟩
      simp [Array.getElem?_eq_getElem hlt']
    · cases h
  · cases h

theorem pure_typeAssert {x : Operand} {xt t : TypeId} {ok : Bool} (hev : EvR ρ lam ev e) (h : pureOp E (.typeAssert x xt t ok) ev = some d) (hr : d.rq = true) :
    Comes' E ρ lam w ⟨dst, .typeAssert x xt t ok, type, pos, after, guard⟩ e (if d.c = true then d.x else d.y) := by
  simp only [pureOp] at h
  split at h
  · rename_i v ti hx hti
    obtain ⟨inf, dt, hi, hu, hd, _, _, hz⟩ := ti_spec hti
    split at h
    · cases h
    · rename_i hni
      split at h
      · rename_i r y z hy hz'
        rw [hz'] at hz
        obtain ⟨z', hz1, hz2⟩ := Option.bind_eq_some_iff.1 hz
        have hzero : (zeroValue t).run E.P w = .ok z' w := by simp [zeroValue, typeInfo, hi, hz1]
        have hint : ∀ ms, dt ≠ .interface ms := by
          rintro ms rfl
          exact hni (by rw [← hd]; rfl)
        have hv := hev.v hx
        have key : v.isK .iface = true → (v.isNilIface = true ∧ v = .nilIface) ∨ ∃ t' u, v = .iface t' u := by
          intro hk; cases v <;> simp_all [V.isK, V.isNilIface]
        cases ok with
        | true =>
          simp only [Option.some.injEq] at h
          subst h
          simp only [Bool.and_eq_true, Bool.or_eq_true, Bool.not_eq_true'] at hr
          rcases key hr.1 with ⟨_, rfl⟩ | ⟨t', u, rfl⟩
          · have he : e x = .nilIface := by generalize e x = q at hv; cases hv; rfl
            refine ⟨.tuple #[z', .bool false], ?_, ?_⟩
            · cases dt <;> first | (exact (hint _ rfl).elim) | simp [execOp, Instr.typeAssert, run_underlying hu, he, hzero]
            · simp only [V.isNilIface, Bool.not_true, Bool.false_and, Bool.false_eq_true, if_false]
              exact .v (.mk_tuple (.cons (ofValueA_VR hz2) (.cons (.bool _) (.nil ρ))))
          · obtain ⟨u', he, hu'⟩ : ∃ u', e x = .iface t' u' ∧ VR ρ u u' := by generalize e x = q at hv; cases hv with | iface _ h => exact ⟨_, rfl, h⟩
            by_cases ht : t' = t
            · subst ht
              have hr2 : r = true := by simpa [V.isNilIface, V.ifType, Nat.beq_refl] using hr.2
              have := open1_eq hy hr2
              refine ⟨.tuple #[u', .bool true], ?_, ?_⟩
              · cases dt <;> first | (exact (hint _ rfl).elim) | simp [execOp, Instr.typeAssert, run_underlying hu, he]
              · simp only [V.isNilIface, V.ifType, Nat.beq_refl, Bool.not_false, Bool.true_and, if_true, this, V.ifVal]
                exact .v (.mk_tuple (.cons hu' (.cons (.bool _) (.nil ρ))))
            · have hb : Nat.beq t' t = false := by rw [beq_iff]; simpa using ht
              refine ⟨.tuple #[z', .bool false], ?_, ?_⟩
              · cases dt <;> first | (exact (hint _ rfl).elim) | simp [execOp, Instr.typeAssert, run_underlying hu, he, ht, hzero]
              · simp only [V.isNilIface, V.ifType, hb, Bool.and_false, Bool.false_eq_true, if_false]
                exact .v (.mk_tuple (.cons (ofValueA_VR hz2) (.cons (.bool _) (.nil ρ))))
        | false =>
          simp only [Option.some.injEq] at h
          subst h
          simp only [Dec.one, Bool.and_eq_true, Bool.not_eq_true'] at hr
          rcases key hr.1.1 with ⟨h1, rfl⟩ | ⟨t', u, rfl⟩
          · rw [hr.1.2.1] at h1; cases h1
          · obtain ⟨u', he, hu'⟩ : ∃ u', e x = .iface t' u' ∧ VR ρ u u' := by generalize e x = q at hv; cases hv with | iface _ h => exact ⟨_, rfl, h⟩
            have ht : t' = t := Nat.eq_of_beq_eq_true hr.1.2.2
            subst ht
            have := open1_eq hy hr.2
            refine ⟨u', ?_, ?_⟩
            · cases dt <;> first | (exact (hint _ rfl).elim) | simp [execOp, Instr.typeAssert, run_underlying hu, he]
            · simp only [Dec.one, if_true, this, V.ifVal]
              exact .v hu'
      · cases h
  · cases h

theorem pure_call {c : Call} (hev : EvR ρ lam ev e) (h : pureOp E (.call c) ev = some d) :
    Comes' E ρ lam w ⟨dst, .call c, type, pos, after, guard⟩ e (if d.c = true then d.x else d.y) := by
  simp only [pureOp] at h
  split at h
  · rename_i b hb
    split at h
    · rename_i vs t hvs ht0
      have ht : c.argTypes[0]? = some t := by simpa using ht0
      have hvs' := hev.vs hvs
      obtain ⟨as, has⟩ : ∃ as, c.args.toList.map e = as := ⟨_, rfl⟩
      rw [has] at hvs'
      have hargs : c.args.map e = as.toArray := by apply Array.ext'; simp [has]
      have hrun : ∀ v, (∀ con, (builtin b c.argTypes type con as.toArray).run E.P w = .ok (.value v) w) → (execOp e ⟨dst, .call c, type, pos, after, guard⟩).run E.P w = .ok (.value v) w := by
        intro v hv
        simp [execOp, resolve, hb, invoke, hargs, hv]
      unfold pureCall at h
      split at h
      · split at h
        · rename_i s _ hk
          obtain ⟨dt, hu, hd⟩ := kind_desc hk
          simp only [Option.some.injEq] at h
          subst h
          obtain ⟨y, m, rfl, h1, h2⟩ := hvs'.of_cons
          have := h2.of_nil; subst this
          cases dt <;> simp [shapeOf, shapeK] at hd
          exact ⟨.int .i64 (s.size : Int), hrun _ fun con => by simp [builtin, Builtin.len_, ht, run_underlying hu, h1.str_eq, goInt], .v (.int _ _)⟩
        · cases h
      · split at h
        · rename_i p n cp _ hk
          obtain ⟨dt, hu, hd⟩ := kind_desc hk
          simp only [Option.some.injEq] at h
          subst h
          obtain ⟨y, m, rfl, h1, h2⟩ := hvs'.of_cons
          have := h2.of_nil; subst this
          obtain ⟨a, rfl, _⟩ := ptrAdd_slice h1
          cases dt <;> simp [shapeOf, shapeK] at hd
          exact ⟨.int .i64 (n : Int), hrun _ fun con => by simp [builtin, Builtin.len_, ht, run_underlying hu, goInt], .v (.int _ _)⟩
        · cases h
      · split at h
        · rename_i p n cp _ hk
          obtain ⟨dt, hu, hd⟩ := kind_desc hk
          simp only [Option.some.injEq] at h
          subst h
          obtain ⟨y, m, rfl, h1, h2⟩ := hvs'.of_cons
          have := h2.of_nil; subst this
          obtain ⟨a, rfl, _⟩ := ptrAdd_slice h1
          cases dt <;> simp [shapeOf, shapeK] at hd
          exact ⟨.int .i64 (cp : Int), hrun _ fun con => by simp [builtin, Builtin.cap_, ht, run_underlying hu, goInt], .v (.int _ _)⟩
        · cases h
      · split at h
        · rename_i v hv
          simp only [Option.some.injEq] at h
          subst h
          unfold minInts at hv
          split at hv
          · simp only [Option.some.injEq] at hv
            subst hv
            obtain ⟨y, m, rfl, h1, h2⟩ := hvs'.of_cons
            have := h2.of_nil; subst this
            exact ⟨y, hrun _ fun con => by simp [builtin, Builtin.min_], .v h1⟩
          · rename_i k x k' y
            by_cases hk : k = k'
            · simp only [hk, ikBeq_eq, decide_true, cond_true, cond_false, Option.some.injEq] at hv
              subst hv
              obtain ⟨p, m, rfl, h1, h2⟩ := hvs'.of_cons
              obtain ⟨q, m, rfl, h3, h4⟩ := h2.of_cons
              have := h4.of_nil; subst this
              refine ⟨.int k' (if y < x then y else x), hrun _ fun con => by simp [builtin, Builtin.min_, h1.int_eq, h3.int_eq, Builtin.min2, hk], .v ?_⟩
              rw [cond_if]
              simpa using VR.int k' _
            · simp [hk] at hv
          · cases hv
        · cases h
      · split at h
        · rename_i v hv
          simp only [Option.some.injEq] at h
          subst h
          unfold minInts at hv
          split at hv
          · simp only [Option.some.injEq] at hv
            subst hv
            obtain ⟨y, m, rfl, h1, h2⟩ := hvs'.of_cons
            have := h2.of_nil; subst this
            exact ⟨y, hrun _ fun con => by simp [builtin, Builtin.max_], .v h1⟩
          · rename_i k x k' y
            by_cases hk : k = k'
            · simp only [hk, ikBeq_eq, decide_true, cond_true, cond_false, Option.some.injEq] at hv
              subst hv
              obtain ⟨p, m, rfl, h1, h2⟩ := hvs'.of_cons
              obtain ⟨q, m, rfl, h3, h4⟩ := h2.of_cons
              have := h4.of_nil; subst this
              refine ⟨.int k' (if y > x then y else x), hrun _ fun con => by simp [builtin, Builtin.max_, h1.int_eq, h3.int_eq, Builtin.max2, hk], .v ?_⟩
              rw [cond_if]
              simpa using VR.int k' _
            · simp [hk] at hv
          · cases hv
        · cases h
      · cases h
    · cases h
  · cases h

end
end Go.Am
