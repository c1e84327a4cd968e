/- Each operation that touches no memory: what the abstract machine says of it holds in the machine. -/
import Derived.Test.YtibkggbidojocaaDoorAmOps
namespace Go.Am
set_option linter.unusedSimpArgs false
set_option linter.unusedVariables false
set_option linter.unusedSectionVars false

section
variable {E : Env} {ρ lam : Ren} {w : World}

theorem run_eql_other {t : TypeId} {a b : Value} {q : Bool} (h : (Op.equalIn 10000 t a b).run E.P w = .ok q w) (hn : ∀ k n k' n', ¬ (a = .int k n ∧ b = .int k' n'))
    (hs : ∀ x y, ¬ (a = .string x ∧ b = .string y)) (hf : ∀ k x k' y, ¬ (a = .float k x ∧ b = .float k' y)) (hx : ∀ k x y k' x' y', ¬ (a = .complex k x y ∧ b = .complex k' x' y')) :
    (binOp .eql t a b).run E.P w = .ok (.bool q) w ∧ (binOp .neq t a b).run E.P w = .ok (.bool (!q)) w := by
  have he : (Op.equal t a b).run E.P w = .ok q w := h
  cases a <;> cases b <;> first
    | exact (hn _ _ _ _ ⟨rfl, rfl⟩).elim
    | exact (hs _ _ ⟨rfl, rfl⟩).elim
    | exact (hf _ _ _ _ ⟨rfl, rfl⟩).elim
    | exact (hx _ _ _ _ _ _ ⟨rfl, rfl⟩).elim
    | (constructor <;> simp [binOp, he])

theorem eqOther_hole {t : TypeId} {nils q : Bool} {a b : V} (h : eqOther E t nils a b = some (true, q)) : a ≠ .hole ∧ b ≠ .hole := by
  constructor
  · rintro rfl
    cases b <;> simp only [eqOther] at h <;> first | cases h | (split at h <;> first | cases h | (split at h <;> simp [V.isK] at h) | simp [V.isK] at h) | skip
    all_goals (revert h; cases nils <;> simp [V.isK]; try (split <;> simp))
  · rintro rfl
    cases a <;> simp only [eqOther] at h <;> first | cases h | (split at h <;> first | cases h | simp [V.isK] at h) | skip

theorem bin_sound {op : BinOp} {t : TypeId} {nils r : Bool} {a b v : V} {a' b' : Value} {x y : Operand} (hc : nils = true → ∃ c, y = .const c)
    (ha : VR ρ a a') (hb : VR ρ b b') (h : binV E op t nils a b = some (r, v)) (hr : r = true) :
    ∃ v', (eqGuard op t x y a' b').run E.P w = .ok () w ∧ (binOp op t a' b').run E.P w = .ok v' w ∧ VR ρ v v' := by
  unfold binV at h
  split at h
  · rename_i k n k' n'
    cases ha; cases hb
    have hg : (eqGuard op t x y (.int k n) (.int k' n')).run E.P w = .ok () w := by cases op <;> simp [eqGuard]
    split at h
    · obtain ⟨v', h1, h2⟩ := shift_spec (w := w) (ρ := ρ) (.inl rfl) (k' := k') h hr t; exact ⟨v', hg, h1, h2⟩
    · obtain ⟨v', h1, h2⟩ := shift_spec (w := w) (ρ := ρ) (.inr rfl) (k' := k') h hr t; exact ⟨v', hg, h1, h2⟩
    · by_cases hk : k = k'
      · subst hk
        simp only [ikBeq_eq, decide_true, cond_true] at h
        obtain ⟨v', h1, h2⟩ := int_spec (w := w) (ρ := ρ) h hr t
        exact ⟨v', hg, h1, h2⟩
      · simp [hk] at h
  · rename_i s s'
    cases ha; cases hb
    obtain ⟨v', h1, h2⟩ := str_spec (w := w) (ρ := ρ) h hr t
    exact ⟨v', by cases op <;> simp [eqGuard], h1, h2⟩
  · rename_i h1 h2
    have hh : a ≠ .hole ∧ b ≠ .hole := by
      split at h
      · split at h
        · rename_i r' q he
          simp only [Option.some.injEq, Prod.mk.injEq] at h
          exact eqOther_hole (he.trans (by rw [h.1, hr]))
        · cases h
      · split at h
        · rename_i r' q he
          simp only [Option.some.injEq, Prod.mk.injEq] at h
          exact eqOther_hole (he.trans (by rw [h.1, hr]))
        · cases h
      · cases h
    have hn : ∀ k n k' n', ¬ (a' = .int k n ∧ b' = .int k' n') := by
      rintro k n k' n' ⟨rfl, rfl⟩
      cases ha with
      | hole => exact hh.1 rfl
      | int => cases hb with
        | hole => exact hh.2 rfl
        | int => exact h1 _ _ _ _ rfl rfl
    have hs : ∀ x y, ¬ (a' = .string x ∧ b' = .string y) := by
      rintro x y ⟨rfl, rfl⟩
      cases ha with
      | hole => exact hh.1 rfl
      | str => cases hb with
        | hole => exact hh.2 rfl
        | str => exact h2 _ _ rfl rfl
    have hf : ∀ k x k' y, ¬ (a' = .float k x ∧ b' = .float k' y) := by
      rintro k x k' y ⟨rfl, rfl⟩
      cases ha with
      | hole => exact hh.1 rfl
    have hx : ∀ k x y k' x' y', ¬ (a' = .complex k x y ∧ b' = .complex k' x' y') := by
      rintro k x y k' x' y' ⟨rfl, rfl⟩
      cases ha with
      | hole => exact hh.1 rfl
    split at h
    · split at h
      · rename_i r' q he
        simp only [Option.some.injEq, Prod.mk.injEq] at h
        obtain ⟨rfl, rfl⟩ := h
        obtain ⟨hg, h3⟩ := eqOther_sound (w := w) (x := x) (op := .eql) (D := 9999) hc (by omega) ha hb he hr
        exact ⟨.bool q, hg, (run_eql_other h3 hn hs hf hx).1, .bool _⟩
      · cases h
    · split at h
      · rename_i r' q he
        simp only [Option.some.injEq, Prod.mk.injEq] at h
        obtain ⟨rfl, rfl⟩ := h
        obtain ⟨hg, h3⟩ := eqOther_sound (w := w) (x := x) (op := .neq) (D := 9999) hc (by omega) ha hb he hr
        exact ⟨.bool (!q), hg, (run_eql_other h3 hn hs hf hx).2, .bool _⟩
      · cases h
    · cases h

theorem cond_if (c : Bool) (x y : Int) : (bif c then x else y) = if c = true then x else y := by cases c <;> rfl

theorem un_sound {op : UnOp} {a v : V} {a' : Value} (ha : VR ρ a a') (h : unV op a = some v) : ∃ v', (Op.unary op a').run E.P w = .ok v' w ∧ VR ρ v v' := by
  unfold unV at h
  split at h
  · cases ha; simp only [Option.some.injEq] at h; subst h; exact ⟨_, rfl, .bool _⟩
  · cases ha; simp only [Option.some.injEq] at h; subst h; exact ⟨_, rfl, .int _ _⟩
  · cases ha; simp only [Option.some.injEq] at h; subst h
    exact ⟨_, rfl, by rw [cond_if]; exact .int _ _⟩
  · cases h

theorem field_spec {t ft : TypeId} {f o : Nat} (h : fieldAt? E t f = some (o, ft)) : ∃ fs fd, E.P.underlying t = some (.struct fs) ∧ fs[f]? = some fd ∧ fd.offset = o ∧ fd.type = ft := by
  unfold fieldAt? at h
  split at h
  · rename_i i hi
    obtain ⟨inf, d, h1, h2, h3, _⟩ := ti_spec hi
    split at h
    · rename_i fs hs
      rw [hs] at h3
      cases d <;> simp [shapeOf] at h3
      rename_i fields
      subst h3
      simp only [List.getElem?_map, Option.map_eq_some_iff, Prod.mk.injEq] at h
      obtain ⟨fd, h4, h5, h6⟩ := h
      exact ⟨fields, fd, h2, by simpa using h4, h5, h6⟩
    · cases h
  · cases h

theorem bound_spec {ev : Ev} {e : Operand → Value} (hev : EvR ρ lam ev e) {x : Operand} {i : Int} (h : bound x ev = some i) : ∃ k, e x = .int k i := by
  unfold bound at h
  split at h
  · rename_i k j hx
    simp only [Option.some.injEq] at h
    subst h
    exact ⟨k, (hev.v hx).int_eq⟩
  · cases h

theorem run_sliceBound {k : IntKind} {i : Int} {y : Nat} {code : BoundsCode} (h0 : 0 ≤ i) (h1 : i ≤ (y : Int)) (w : World) :
    (Instr.sliceBound (.int k i) y code).run E.P w = .ok i.toNat w := by
  simp [Instr.sliceBound, asIntOf, h0, h1]

theorem bounds_sound {ev : Ev} {e : Operand → Value} (hev : EvR ρ lam ev e) {isS : Bool} {len cap l h m : Nat} {lo hi mx : Option Operand} {r : Bool}
    (hb : bounds3 ev len cap lo hi mx = some (r, l, h, m)) (hr : r = true) (w : World) :
    (Instr.sliceBounds isS len cap (lo.map e) (hi.map e) (mx.map e)).run E.P w = .ok (l, h, m) w := by
  unfold bounds3 at hb
  cases hq : (hi.isNone && mx.isSome)
  · simp only [hq, cond_false] at hb
    split at hb
    · rename_i m1 hm
      split at hb
      · rename_i h1 hh
        split at hb
        · rename_i l1 hl
          simp only [Option.some.injEq, Prod.mk.injEq] at hb
          obtain ⟨hrr, rfl, rfl, rfl⟩ := hb
          rw [hr] at hrr
          simp only [Bool.and_eq_true] at hrr
          obtain ⟨⟨r1, r2⟩, r3⟩ := hrr
          have key : ∀ {x : Option Operand} {d most : Nat} {q : Bool × Nat}, bound1 ev x d most = some q → q.1 = true →
              (x = none ∧ q.2 = d) ∨ ∃ y k i, x = some y ∧ e y = .int k i ∧ 0 ≤ i ∧ i ≤ (most : Int) ∧ q.2 = i.toNat := by
            intro x d most q hx hq
            unfold bound1 at hx
            split at hx
            · simp only [Option.some.injEq] at hx; subst hx; exact .inl ⟨rfl, rfl⟩
            · split at hx
              · rename_i y _ i hy
                simp only [Option.some.injEq] at hx
                subst hx
                simp only [Bool.and_eq_true, decide_eq_true_eq] at hq
                obtain ⟨k, hk⟩ := bound_spec hev hy
                exact .inr ⟨y, k, i, rfl, hk, hq.1, hq.2, rfl⟩
              · cases hx
          unfold Instr.sliceBounds
          rcases key hm r1 with ⟨rfl, e1⟩ | ⟨y1, k1, i1, rfl, he1, a1, b1, e1⟩ <;>
            rcases key hh r2 with ⟨rfl, e2⟩ | ⟨y2, k2, i2, rfl, he2, a2, b2, e2⟩ <;>
              rcases key hl r3 with ⟨rfl, e3⟩ | ⟨y3, k3, i3, rfl, he3, a3, b3, e3⟩ <;>
                simp_all [run_sliceBound]
        · cases hb
      · cases hb
    · cases hb
  · simp [hq] at hb

theorem setMany_VRs {x : Value} {v : V} (h : VR ρ v x) : ∀ {cs : List V} {cs' : List Value} {off : Nat}, VRs ρ cs cs' → VRs ρ (setV cs 0 off v) (cs'.set off x) := by
  have key : ∀ (cs : List V) (cs' : List Value) (j off : Nat), VRs ρ cs cs' → VRs ρ (setV cs j off v) (if off < j then cs' else cs'.set (off - j) x) := by
    intro cs
    induction cs with
    | nil => intro cs' j off hc; rw [hc.of_nil]; simpa [setV] using VRs.nil ρ
    | cons c cs ih =>
      intro cs' j off hc
      obtain ⟨y, m, rfl, h1, h2⟩ := hc.of_cons
      have := ih m (j + 1) off h2
      rw [setV, condV_eq, beq_iff]
      by_cases hlt : off < j
      · rw [if_pos (by omega)] at this
        rw [if_pos hlt, if_neg (by simp; omega)]
        exact .cons h1 this
      · rw [if_neg hlt]
        by_cases he : j = off
        · subst he
          rw [if_pos (by omega)] at this
          simp only [decide_true, if_true, Nat.sub_self, List.set_cons_zero]
          exact .cons h this
        · rw [if_neg (by omega)] at this
          obtain ⟨q, hq⟩ : ∃ q, off - j = q + 1 := ⟨off - j - 1, by omega⟩
          rw [hq, List.set_cons_succ, if_neg (by simp; omega)]
          rw [show off - (j + 1) = q by omega] at this
          exact .cons h1 this
  intro cs cs' off hc
  have := key cs cs' 0 off hc
  simpa using this

end
end Go.Am
