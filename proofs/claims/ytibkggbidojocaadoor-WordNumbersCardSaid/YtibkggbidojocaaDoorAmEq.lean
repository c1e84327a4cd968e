/- The machine's '==' of structs and arrays, cell by cell. -/
import Derived.Test.YtibkggbidojocaaDoorAmRel
import Derived.ChangeKeysEq
namespace Go.Am
set_option linter.unusedSimpArgs false
set_option linter.unusedVariables false
set_option linter.unusedSectionVars false

theorem ti_spec {E : Env} {t : Nat} {i : TI} (h : E.ti t = some i) :
    ∃ inf d, E.P.info? t = some inf ∧ E.P.underlying t = some d ∧ shapeOf d = i.sh ∧ inf.size = i.size ∧ inf.bytes = i.bytes ∧ inf.zero.bind ofValueA = i.zero := by
  have h := E.ti_ok t i h
  unfold tiOf at h
  split at h
  · rename_i inf d h1 h2
    simp only [Option.some.injEq] at h
    subst h
    exact ⟨inf, d, h1, h2, rfl, rfl, rfl, rfl⟩
  · cases h

theorem run_isAgg {P : Program} {t : TypeId} {d : TypeDesc} (h : P.underlying t = some d) (w : World) : (isAgg t).run P w = .ok (aggD d) w := by
  simp only [isAgg, Sem.run_bind, run_underlying h, Result.andThen_ok]
  cases d <;> rfl

theorem shapeK_agg {d : TypeDesc} {k : Kind} (h : shapeK (shapeOf d) = some k) : aggD d = false := by
  cases d <;> simp_all [shapeOf, shapeK, aggD]

/-- A value of a type that has these cells. -/
def IsVal (P : Program) (t : TypeId) (cs : List Value) (x : Value) : Prop :=
  ∃ d, P.underlying t = some d ∧ ((aggD d = true ∧ x = .agg cs.toArray) ∨ (aggD d = false ∧ cs = [x]))

theorem run_part_val {P : Program} {t : TypeId} {d : TypeDesc} {inf : TypeInfo} (hu : P.underlying t = some d) (hi : P.info? t = some inf) (cs : Array Value) (off n : Nat)
    (hn : off + n ≤ cs.size) (hs : inf.size = n) (h1 : aggD d = false → n = 1) (w : World) :
    ∃ x, (part t cs off).run P w = .ok x w ∧ IsVal P t ((cs.toList.drop off).take n) x := by
  cases ha : aggD d
  · have hn1 := h1 ha
    subst hn1
    have hlt : off < cs.size := by omega
    refine ⟨cs[off], ?_, d, hu, .inr ⟨ha, ?_⟩⟩
    · simp [part, run_isAgg hu, ha, Array.getElem?_eq_getElem hlt]
    · have : cs.toList.drop off = cs[off] :: cs.toList.drop (off + 1) := by
        rw [List.drop_eq_getElem_cons (by simpa using hlt)]; rfl
      rw [this]; rfl
  · refine ⟨.agg (cs.extract off (off + n)), ?_, d, hu, .inl ⟨ha, ?_⟩⟩
    · simp [part, run_isAgg hu, ha, run_sizeOf w hi, Program.cellsOf, hi, hs]
    · congr 1
      apply Array.ext'
      simp [List.extract_eq_take_drop]

theorem eqCells_len : ∀ {xs ys : List V} {b : Bool}, eqCells xs ys = some b → xs.length = ys.length
  | [], [], _, _ => rfl
  | [], _ :: _, _, h => by simp [eqCells] at h
  | x :: l, [], _, h => by cases x <;> simp [eqCells] at h
  | x :: l, y :: m, b, h => by
    have key : ∀ {b}, eqCells l m = some b → (x :: l).length = (y :: m).length := fun h => by simp [eqCells_len h]
    cases hx : eqCells l m with
    | some b => exact key hx
    | none =>
      cases x <;> cases y <;> simp [eqCells, hx] at h

theorem eqCells_append : ∀ {a c : List V} (b d : List V) {r : Bool}, a.length = c.length → eqCells (a ++ b) (c ++ d) = some r →
    ∃ x y, eqCells a c = some x ∧ eqCells b d = some y ∧ r = (x && y)
  | [], [], b, d, r, _, h => ⟨true, r, rfl, h, by simp⟩
  | x :: l, y :: m, b, d, r, hl, h => by
    have ih : ∀ {r}, eqCells (l ++ b) (m ++ d) = some r → _ := fun h => eqCells_append (a := l) (c := m) b d (by simpa using hl) h
    cases x <;> cases y <;> simp only [List.cons_append, eqCells] at h ⊢ <;> try (cases h; done)
    · split at h
      · rename_i e q hq
        obtain ⟨u, v, h1, h2, rfl⟩ := ih hq
        simp only [Option.some.injEq] at h
        exact ⟨_, v, by rw [h1], h2, by rw [← h, Bool.and_assoc]⟩
      · cases h
    · rename_i k p k' q
      by_cases hk : k = k'
      · simp only [hk, ikBeq_eq, decide_true, cond_true] at h ⊢
        split at h
        · rename_i e s hs
          obtain ⟨u, v, h1, h2, rfl⟩ := ih hs
          simp only [Option.some.injEq] at h
          exact ⟨_, v, by rw [h1], h2, by rw [← h, Bool.and_assoc]⟩
        · cases h
      · simp [hk] at h
    · split at h
      · rename_i e q hq
        obtain ⟨u, v, h1, h2, rfl⟩ := ih hq
        simp only [Option.some.injEq] at h
        exact ⟨_, v, by rw [h1], h2, by rw [← h, Bool.and_assoc]⟩
      · cases h

theorem fits_len : ∀ {ks : List Kind} {vs : List V}, fits ks vs = true → ks.length = vs.length
  | [], [], _ => rfl
  | [], _ :: _, h => by simp [fits] at h
  | _ :: _, [], h => by simp [fits] at h
  | _ :: ks, _ :: vs, h => by rw [fits, Bool.and_eq_true] at h; simp [fits_len h.2]

theorem fits_append : ∀ {a b : List Kind} {vs : List V}, fits (a ++ b) vs = true → fits a (vs.take a.length) = true ∧ fits b (vs.drop a.length) = true
  | [], b, vs, h => by simpa [fits] using h
  | k :: a, b, [], h => by simp [fits] at h
  | k :: a, b, v :: vs, h => by
    rw [List.cons_append, fits, Bool.and_eq_true] at h
    obtain ⟨h1, h2⟩ := fits_append h.2
    simp [fits, h.1, h1, h2]

theorem repK_len (n : Nat) (ks : List Kind) : (repK n ks).length = n * ks.length := by
  induction n with
  | zero => simp [repK]
  | succ n ih => simp [repK, ih, Nat.add_mul]; omega

section
variable {P : Program} {ρ : Ren}

/-- '==' goes cell by cell, at a type. -/
def EqAt (P : Program) (ρ : Ren) (D : Nat) (t : TypeId) (ks : List Kind) : Prop :=
  ∀ (w : World) (xv yv : List V) (xs ys : List Value) (x y : Value) (b : Bool), fits ks xv = true → fits ks yv = true → VRs ρ xv xs → VRs ρ yv ys → eqCells xv yv = some b →
    IsVal P t xs x → IsVal P t ys y → (Op.equalIn D t x y).run P w = .ok b w

theorem take_drop_split {α : Type} (l : List α) (a n : Nat) : l.drop a = (l.drop a).take n ++ l.drop (a + n) := by
  rw [← List.drop_drop, List.take_append_drop]

theorem sized {d : Nat} {t : TypeId} {ks : List Kind} (h : flatOk P d t = some ks) :
    ∃ D, P.underlying t = some D ∧ (aggD D = false → ks.length = 1) ∧ (aggD D = true → P.cellsOf t = ks.length) := by
  cases d with
  | zero => cases h
  | succ d =>
    unfold flatOk at h
    split at h
    · rename_i hu; simp only [Option.some.injEq] at h; subst h; exact ⟨_, hu, fun _ => rfl, fun h => by simp [aggD] at h⟩
    · rename_i hu; simp only [Option.some.injEq] at h; subst h; exact ⟨_, hu, fun _ => rfl, fun h => by simp [aggD] at h⟩
    · rename_i hu; simp only [Option.some.injEq] at h; subst h; exact ⟨_, hu, fun _ => rfl, fun h => by simp [aggD] at h⟩
    · rename_i hu
      refine ⟨_, hu, fun h => by simp [aggD] at h, fun _ => ?_⟩
      cases hp : P.stoodInHeld t
      · simp only [hp, cond_false] at h
        split at h
        · rename_i m _
          by_cases hc : P.cellsOf t = m.length
          · simp only [beq_iff, hc, decide_true, cond_true, Option.some.injEq] at h; rw [← h, hc]
          · simp [beq_iff, hc] at h
        · cases h
      · simp [hp] at h
    · rename_i k e hu
      refine ⟨_, hu, fun h => by simp [aggD] at h, fun _ => ?_⟩
      split at h
      · rename_i m _
        by_cases hc1 : P.cellsOf e = m.length
        · by_cases hc2 : P.cellsOf t = k * m.length
          · simp only [beq_iff, hc1, hc2, decide_true, Bool.and_self, cond_true, Option.some.injEq] at h; rw [← h, repK_len, hc2]
          · simp [beq_iff, hc2] at h
        · simp [beq_iff, hc1] at h
      · cases h
    · cases h

theorem run_part_flat {d : Nat} {t : TypeId} {ks : List Kind} (h : flatOk P d t = some ks) (cs : Array Value) (off : Nat) (hn : off + ks.length ≤ cs.size) (w : World) :
    ∃ x, (part t cs off).run P w = .ok x w ∧ IsVal P t ((cs.toList.drop off).take ks.length) x := by
  obtain ⟨D, hu, h1, h2⟩ := sized h
  obtain ⟨inf, hi⟩ := info_of_underlying hu
  cases ha : aggD D
  · have hn1 := h1 ha
    have hlt : off < cs.size := by omega
    refine ⟨cs[off], ?_, D, hu, .inr ⟨ha, ?_⟩⟩
    · simp [part, run_isAgg hu, ha, Array.getElem?_eq_getElem hlt]
    · have : cs.toList.drop off = cs[off] :: cs.toList.drop (off + 1) := by
        rw [List.drop_eq_getElem_cons (by simpa using hlt)]; rfl
      rw [this, hn1]; rfl
  · exact run_part_val hu hi cs off _ hn (by have := h2 ha; simpa [Program.cellsOf, hi] using this) (fun h => by rw [ha] at h; cases h) w

theorem run_fields {d D : Nat} (ih : ∀ t ks, flatOk P d t = some ks → EqAt P ρ D t ks) (xs ys : Array Value) (w : World) :
    ∀ (l : List Field) (o : Nat) (ks : List Kind) (xv yv : List V) (b : Bool), flatFields (flatOk P d) l o = some ks → o ≤ xv.length → o ≤ yv.length →
      fits ks (xv.drop o) = true → fits ks (yv.drop o) = true → VRs ρ xv xs.toList → VRs ρ yv ys.toList →
      eqCells (xv.drop o) (yv.drop o) = some b → (Op.eqFields D xs ys l).run P w = .ok b w
  | [], o, ks, xv, yv, b, h, hx, hy, fx, fy, _, _, he => by
    simp only [flatFields, Option.some.injEq] at h
    subst h
    have l1 := fits_len fx
    have l2 := fits_len fy
    rw [List.eq_nil_of_length_eq_zero l1.symm, List.eq_nil_of_length_eq_zero l2.symm] at he
    simp only [eqCells, Option.some.injEq] at he
    subst he
    simp [Op.eqFields]
  | f :: l, o, ks, xv, yv, b, h, hx, hy, fx, fy, hvx, hvy, he => by
    unfold flatFields at h
    cases hc : (f.name != "_" && Nat.beq f.offset o)
    · simp [hc] at h
    · simp only [hc, cond_true] at h
      rw [Bool.and_eq_true] at hc
      have hname : f.name ≠ "_" := by simpa using hc.1
      have hoff : f.offset = o := Nat.eq_of_beq_eq_true hc.2
      split at h
      · rename_i m hm
        split at h
        · rename_i r hr
          simp only [Option.some.injEq] at h
          subst h
          have l1 := fits_len fx
          have l2 := fits_len fy
          simp only [List.length_append, List.length_drop] at l1 l2
          obtain ⟨fx1, fx2⟩ := fits_append fx
          obtain ⟨fy1, fy2⟩ := fits_append fy
          rw [List.drop_drop] at fx2 fy2
          have hxs : xs.size = xv.length := by have := hvx.1; simp at this; omega
          have hys : ys.size = yv.length := by have := hvy.1; simp at this; omega
          obtain ⟨x, hx1, hx2⟩ := run_part_flat hm xs o (by omega) w
          obtain ⟨y, hy1, hy2⟩ := run_part_flat hm ys o (by omega) w
          rw [take_drop_split xv o m.length, take_drop_split yv o m.length] at he
          obtain ⟨u, v, h1, h2, rfl⟩ := eqCells_append _ _ (by simp; omega) he
          have e1 := ih _ _ hm w _ _ _ _ x y u fx1 fy1 ((hvx.drop o).take m.length) ((hvy.drop o).take m.length) h1 hx2 hy2
          have e2 := run_fields ih xs ys w l (o + m.length) r xv yv v hr (by omega) (by omega) fx2 fy2 hvx hvy h2
          rw [Op.eqFields]
          simp only [if_pos hname, Sem.run_bind, hoff, hx1, hy1, e1, Result.andThen_ok]
          cases u
          · simp
          · simpa using e2
        · cases h
      · cases h

theorem run_items {d D : Nat} {m : List Kind} {e : TypeId} (ih : EqAt P ρ D e m) (hm : flatOk P d e = some m) (xs ys : Array Value) (w : World) :
    ∀ (k i : Nat) (xv yv : List V) (b : Bool), i * m.length ≤ xv.length → i * m.length ≤ yv.length → fits (repK k m) (xv.drop (i * m.length)) = true → fits (repK k m) (yv.drop (i * m.length)) = true →
      VRs ρ xv xs.toList → VRs ρ yv ys.toList →
      eqCells (xv.drop (i * m.length)) (yv.drop (i * m.length)) = some b → (Op.eqItems D e m.length xs ys (List.range' i k)).run P w = .ok b w
  | 0, i, xv, yv, b, hx, hy, fx, fy, _, _, he => by
    have l1 := fits_len fx
    have l2 := fits_len fy
    rw [repK, List.length_nil] at l1 l2
    rw [List.eq_nil_of_length_eq_zero l1.symm, List.eq_nil_of_length_eq_zero l2.symm] at he
    simp only [eqCells, Option.some.injEq] at he
    subst he
    simp [Op.eqItems]
  | k + 1, i, xv, yv, b, hx, hy, fx, fy, hvx, hvy, he => by
    rw [repK] at fx fy
    have l1 := fits_len fx
    have l2 := fits_len fy
    simp only [List.length_append, List.length_drop] at l1 l2
    obtain ⟨fx1, fx2⟩ := fits_append fx
    obtain ⟨fy1, fy2⟩ := fits_append fy
    have hs : i * m.length + m.length = (i + 1) * m.length := by rw [Nat.add_mul, Nat.one_mul]
    rw [List.drop_drop, hs] at fx2 fy2
    have hxs : xs.size = xv.length := by have := hvx.1; simp at this; omega
    have hys : ys.size = yv.length := by have := hvy.1; simp at this; omega
    obtain ⟨x, hx1, hx2⟩ := run_part_flat hm xs (i * m.length) (by omega) w
    obtain ⟨y, hy1, hy2⟩ := run_part_flat hm ys (i * m.length) (by omega) w
    rw [take_drop_split xv (i * m.length) m.length, take_drop_split yv (i * m.length) m.length] at he
    obtain ⟨u, v, h1, h2, rfl⟩ := eqCells_append _ _ (by simp; omega) he
    have e1 := ih w _ _ _ _ x y u fx1 fy1 ((hvx.drop _).take _) ((hvy.drop _).take _) h1 hx2 hy2
    rw [hs] at h2
    have e2 := run_items ih hm xs ys w k (i + 1) xv yv v (by omega) (by omega) fx2 fy2 hvx hvy h2
    rw [List.range'_succ]
    simp only [Op.eqItems, Sem.run_bind, hx1, hy1, e1, Result.andThen_ok]
    cases u
    · simp
    · simpa using e2

theorem scalar_eq {t : TypeId} {d : TypeDesc} {k : Kind} {D : Nat} (hu : P.underlying t = some d) (ha : aggD d = false)
    (hk : ∀ (w : World) (p q : V) (x y : Value) (b : Bool), p.isK k = true → q.isK k = true → VR ρ p x → VR ρ q y → eqCells [p] [q] = some b → (Op.equalIn D t x y).run P w = .ok b w) :
    EqAt P ρ D t [k] := by
  intro w xv yv xs ys x y b fx fy hvx hvy he hix hiy
  obtain ⟨dx, hdx, hcx⟩ := hix
  obtain ⟨dy, hdy, hcy⟩ := hiy
  rw [hu] at hdx hdy
  cases hdx; cases hdy
  rcases hcx with ⟨h', _⟩ | ⟨_, rfl⟩
  · rw [ha] at h'; cases h'
  rcases hcy with ⟨h', _⟩ | ⟨_, rfl⟩
  · rw [ha] at h'; cases h'
  match xv, yv, fx, fy with
  | [p], [q], fx, fy =>
    simp only [fits, Bool.and_true] at fx fy
    exact hk w p q x y b fx fy (hvx.2 0 p x rfl rfl) (hvy.2 0 q y rfl rfl) he
  | [], _, fx, _ => simp [fits] at fx
  | _ :: _ :: _, _, fx, _ => simp [fits] at fx
  | [_], [], _, fy => simp [fits] at fy
  | [_], _ :: _ :: _, _, fy => simp [fits] at fy

theorem eq_flat : ∀ (d : Nat) (t : TypeId) (ks : List Kind), flatOk P d t = some ks → ∀ D, d ≤ D → EqAt P ρ D t ks := by
  intro d
  induction d with
  | zero => intro t ks h; cases h
  | succ d ih =>
    intro t ks h D hD
    obtain ⟨D, rfl⟩ : ∃ D', D = D' + 1 := ⟨D - 1, by omega⟩
    unfold flatOk at h
    split at h
    · rename_i hu
      simp only [Option.some.injEq] at h
      subst h
      refine scalar_eq hu rfl fun w p q x y b kp kq hp hq he => ?_
      cases hp <;> simp [V.isK] at kp
      cases hq <;> simp [V.isK] at kq
      simp [eqCells] at he
      simp [Op.equalIn, run_underlying hu, he]
    · rename_i k hu
      simp only [Option.some.injEq] at h
      subst h
      refine scalar_eq hu rfl fun w p q x y b kp kq hp hq he => ?_
      cases hp <;> simp [V.isK] at kp
      cases hq <;> simp [V.isK] at kq
      subst kp; subst kq
      simp [eqCells] at he
      simp [Op.equalIn, run_underlying hu, he]
    · rename_i hu
      simp only [Option.some.injEq] at h
      subst h
      refine scalar_eq hu rfl fun w p q x y b kp kq hp hq he => ?_
      cases hp <;> simp [V.isK] at kp
      cases hq <;> simp [V.isK] at kq
      simp [eqCells] at he
      simp [Op.equalIn, run_underlying hu, he]
    · rename_i fs hu
      intro w xv yv xs ys x y b fx fy hvx hvy he hix hiy
      cases hp : P.stoodInHeld t
      · simp only [hp, cond_false] at h
        split at h
        · rename_i m hm
          have hmn : m = ks := by
            by_cases hc : P.cellsOf t = m.length
            · simpa [beq_iff, hc] using h
            · simp [beq_iff, hc] at h
          subst hmn
          obtain ⟨dx, hdx, hcx⟩ := hix
          obtain ⟨dy, hdy, hcy⟩ := hiy
          rw [hu] at hdx hdy
          cases hdx; cases hdy
          rcases hcx with ⟨_, rfl⟩ | ⟨h', _⟩
          · rcases hcy with ⟨_, rfl⟩ | ⟨h', _⟩
            · have hf : P.fieldsOf t = fs := by simp [Program.fieldsOf, hu]
              rw [run_equalIn_struct (P := P) w D t _ _ (by rw [hf]; exact hu) hp, hf]
              exact run_fields (fun t n h => ih t n h D (by omega)) _ _ w fs.toList 0 m xv yv b hm (by omega) (by omega) (by simpa using fx) (by simpa using fy) (by simpa using hvx) (by simpa using hvy) (by simpa using he)
            · simp [aggD] at h'
          · simp [aggD] at h'
        · cases h
      · simp [hp] at h
    · rename_i k e hu
      intro w xv yv xs ys x y b fx fy hvx hvy he hix hiy
      split at h
      · rename_i m hm
        have hc : P.cellsOf e = m.length ∧ ks = repK k m := by
          by_cases hc1 : P.cellsOf e = m.length
          · by_cases hc2 : P.cellsOf t = k * m.length
            · simp only [beq_iff, hc1, hc2, decide_true, Bool.and_self, cond_true, Option.some.injEq] at h; exact ⟨hc1, h.symm⟩
            · simp [beq_iff, hc2] at h
          · simp [beq_iff, hc1] at h
        obtain ⟨hc1, rfl⟩ := hc
        obtain ⟨dx, hdx, hcx⟩ := hix
        obtain ⟨dy, hdy, hcy⟩ := hiy
        rw [hu] at hdx hdy
        cases hdx; cases hdy
        rcases hcx with ⟨_, rfl⟩ | ⟨h', _⟩
        · rcases hcy with ⟨_, rfl⟩ | ⟨h', _⟩
          · obtain ⟨De, hue, _⟩ := sized hm
            obtain ⟨inf, hi⟩ := info_of_underlying hue
            rw [run_equalIn_array w D _ _ hu hi, hc1, List.range_eq_range']
            exact run_items (ih e m hm D (by omega)) hm _ _ w k 0 xv yv b (by omega) (by omega) (by simpa using fx) (by simpa using fy) (by simpa using hvx) (by simpa using hvy) (by simpa using he)
          · simp [aggD] at h'
        · simp [aggD] at h'
      · cases h
    · cases h

end
end Go.Am
