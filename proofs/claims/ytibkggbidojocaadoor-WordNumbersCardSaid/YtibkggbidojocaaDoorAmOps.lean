/- Each operation that touches no memory: what the abstract machine says of it holds in the machine. -/
import Derived.Test.YtibkggbidojocaaDoorAmEq
namespace Go.Am
set_option linter.unusedSimpArgs false
set_option linter.unusedVariables false
set_option linter.unusedSectionVars false

section
variable {E : Env} {ρ lam : Ren} {w : World}

theorem kind_spec {t : TypeId} {k : Kind} (h : kindOf E t = some k) :
    ∃ d inf, E.P.underlying t = some d ∧ E.P.info? t = some inf ∧ shapeK (shapeOf d) = some k ∧ aggD d = false := by
  unfold kindOf at h
  split at h
  · rename_i i hi
    obtain ⟨inf, d, h1, h2, h3, _⟩ := ti_spec hi
    exact ⟨d, inf, h2, h1, by rw [h3]; exact h, shapeK_agg (by rw [h3]; exact h)⟩
  · cases h

theorem kinds_spec {t : TypeId} {ks : List Kind} (h : kindsOf E t = some ks) :
    ∃ d inf z, E.P.underlying t = some d ∧ E.P.info? t = some inf ∧ aggD d = true ∧ inf.zero.bind ofValueA = some (.agg z) ∧ ks = z.map V.kind := by
  unfold kindsOf at h
  split at h
  · rename_i i hi
    obtain ⟨inf, d, h1, h2, h3, h4, h5, h6⟩ := ti_spec hi
    split at h
    · rename_i n e z hs hz
      simp only [Option.some.injEq] at h
      refine ⟨d, inf, z, h2, h1, ?_, by rw [h6, hz], h.symm⟩
      rw [hs] at h3
      cases d <;> simp_all [shapeOf, aggD]
    · rename_i fs z hs hz
      simp only [Option.some.injEq] at h
      refine ⟨d, inf, z, h2, h1, ?_, by rw [h6, hz], h.symm⟩
      rw [hs] at h3
      cases d <;> simp_all [shapeOf, aggD]
    · cases h
  · cases h

theorem size_spec {t : TypeId} {n : Nat} (h : size E t = some n) : ∃ inf, E.P.info? t = some inf ∧ inf.size = n := by
  unfold size at h
  split at h
  · rename_i i hi
    obtain ⟨inf, d, h1, h2, h3, h4, h5, h6⟩ := ti_spec hi
    simp only [Option.some.injEq] at h
    exact ⟨inf, h1, by omega⟩
  · cases h

theorem run_size {t : TypeId} {n : Nat} (h : size E t = some n) (w : World) : (sizeOf t).run E.P w = .ok n w := by
  obtain ⟨inf, h1, h2⟩ := size_spec h
  simp [sizeOf, typeInfo, h1, h2]

theorem expand_eq : ∀ {ks : List Kind} {cs : List V} {l : List V} {j : Nat}, fits ks cs = true → l.drop j = cs → expand ks l j = cs
  | [], [], _, _, _, _ => rfl
  | [], _ :: _, _, _, h, _ => by simp [fits] at h
  | _ :: _, [], _, _, h, _ => by simp [fits] at h
  | k :: ks, c :: cs, l, j, h, hl => by
    rw [fits, Bool.and_eq_true] at h
    have hj : j < l.length := by
      rcases Nat.lt_or_ge j l.length with h | h
      · exact h
      · rw [List.drop_eq_nil_of_le h] at hl; cases hl
    have h0 : nthV l j = c := by
      have h1 := nthV_eq hj
      have h2 : l[j]? = some c := by
        have : (l.drop j)[0]? = some c := by rw [hl]; rfl
        simpa using this
      rw [h1] at h2
      exact Option.some.inj h2
    rw [expand, h0, V.asK_eq h.1, expand_eq (j := j + 1) h.2 (by rw [← List.drop_drop, hl]; rfl)]

theorem agg_of_isAgg {v : V} (h : v.isAgg = true) : v = .agg v.aggCells := by cases v <;> simp_all [V.isAgg, V.aggCells]

theorem open1_eq {t : TypeId} {v y : V} {r : Bool} (h : open1 E t v = some (r, y)) (hr : r = true) : y = v := by
  unfold open1 at h
  split at h
  · simp only [Option.some.injEq, Prod.mk.injEq] at h
    rw [← h.2]; exact V.asK_eq (h.1.trans hr)
  · split at h
    · simp only [Option.some.injEq, Prod.mk.injEq] at h
      have h1 := h.1.trans hr
      rw [Bool.and_eq_true] at h1
      rw [← h.2, expand_eq h1.2 rfl]
      exact (agg_of_isAgg h1.1).symm
    · cases h

theorem openAll_eq : ∀ {ts : List TypeId} {v : V} {j : Nat} {r : Bool} {l : List V}, openAll E ts v j = some (r, l) → r = true → v.vals.length = j + ts.length → l = v.vals.drop j
  | [], v, j, r, l, h, _, hl => by
    simp only [openAll, Option.some.injEq, Prod.mk.injEq] at h
    rw [← h.2, List.drop_eq_nil_of_le (by simp at hl; omega)]
  | t :: ts, v, j, r, l, h, hr, hl => by
    simp only [openAll] at h
    split at h
    · rename_i b x c l' h1 h2
      simp only [Option.some.injEq, Prod.mk.injEq] at h
      have hb := h.1.trans hr
      rw [Bool.and_eq_true] at hb
      have e1 := open1_eq h1 hb.1
      have e2 := openAll_eq h2 hb.2 (by simp at hl; omega)
      have hj : j < v.vals.length := by simp at hl; omega
      rw [← h.2, e1, e2]
      have := nthV_eq hj
      rw [List.getElem?_eq_getElem hj] at this
      rw [List.drop_eq_getElem_cons hj, ← Option.some.inj this]
    · cases h

theorem openV_eq {t : TypeId} {v y : V} {r : Bool} (h : openV E t v = some (r, y)) (hr : r = true) : y = v := by
  unfold openV at h
  split at h
  · split at h
    · simp only [Option.some.injEq, Prod.mk.injEq] at h; exact h.2.symm
    · split at h
      · rename_i ts _ _ _ b l h1
        simp only [Option.some.injEq, Prod.mk.injEq] at h
        have hb := h.1.trans hr
        rw [Bool.and_eq_true] at hb
        have hv : v = .tuple v.vals ∧ v.vals.length = ts.length := by
          cases v <;> simp_all [V.isTuple, V.vals]
        have := openAll_eq h1 hb.2 (by omega)
        rw [← h.2, this, List.drop_zero]
        exact hv.1.symm
      · cases h
    · exact open1_eq h hr
  · cases h

theorem part_sound {t : TypeId} {cs : List V} {off : Nat} {r : Bool} {v : V} {cs' : Array Value} (h : partOf E t cs off = some (r, v)) (hr : r = true) (h1 : OneAll cs) (hcs : VRs ρ cs cs'.toList) (w : World) :
    ∃ v', (part t cs' off).run E.P w = .ok v' w ∧ VR ρ v v' := by
  unfold partOf at h
  split at h
  · rename_i k hk
    obtain ⟨d, inf, hu, hi, _, ha⟩ := kind_spec hk
    simp only [Option.some.injEq, Prod.mk.injEq] at h
    have h1' := h.1.trans hr
    rw [Bool.and_eq_true] at h1'
    have hlt : off < cs.length := by simpa using h1'.1
    obtain ⟨y, hy, hv⟩ := hcs.nth hlt
    refine ⟨y, ?_, by rw [← h.2, V.asK_eq h1'.2]; exact hv⟩
    have hy' : cs'[off]? = some y := by simpa using hy
    simp [part, run_isAgg hu, ha, hy']
  · split at h
    · rename_i ks n hks hn
      obtain ⟨d, inf, z, hu, hi, ha, _⟩ := kinds_spec hks
      simp only [Option.some.injEq, Prod.mk.injEq] at h
      refine ⟨.agg (cs'.extract off (off + n)), ?_, ?_⟩
      · simp [part, run_isAgg hu, ha, run_size hn]
      · rw [← h.2]
        refine .mk_agg (fun c hc => h1 c (List.mem_of_mem_drop (List.mem_of_mem_take hc))) ?_
        have := (hcs.drop off).take n
        simpa [List.extract_eq_take_drop] using this
    · cases h

theorem int_spec {op : BinOp} {k : IntKind} {x y : Int} {r : Bool} {v : V} (h : binInt op k x y = some (r, v)) (hr : r = true) (t : TypeId) :
    ∃ v', (binOp op t (.int k x) (.int k y)).run E.P w = .ok v' w ∧ VR ρ v v' := by
  subst hr
  cases op <;> simp only [binInt, Option.some.injEq, Prod.mk.injEq] at h <;> obtain ⟨h1, rfl⟩ := h <;>
    simp only [binOp, ne_eq, not_true, if_false, Op.intArith, Op.intCmp, Op.intBits, Op.intDiv, Op.shift] <;>
    first
      | exact ⟨_, rfl, .int _ _⟩
      | exact ⟨_, rfl, .bool _⟩
      | (have h1 : ¬ y = 0 := by simpa using h1
         rw [if_neg h1]; exact ⟨_, rfl, .int _ _⟩)
      | (have h1 : ¬ y < 0 := by simpa using h1
         rw [if_neg h1]; exact ⟨_, rfl, .int _ _⟩)

theorem shift_spec {op : BinOp} (hop : op = .shl ∨ op = .shr) {k k' : IntKind} {x y : Int} {r : Bool} {v : V} (h : binInt op k x y = some (r, v)) (hr : r = true) (t : TypeId) :
    ∃ v', (binOp op t (.int k x) (.int k' y)).run E.P w = .ok v' w ∧ VR ρ v v' := by
  subst hr
  rcases hop with rfl | rfl <;> simp only [binInt, Option.some.injEq, Prod.mk.injEq] at h <;> obtain ⟨h1, rfl⟩ := h <;>
    simp only [binOp, Op.shift] <;>
    (have h1 : ¬ y < 0 := by simpa using h1
     rw [if_neg h1]; exact ⟨_, rfl, .int _ _⟩)

theorem i64_max : IntKind.i64.max = 9223372036854775807 := by decide

theorem str_spec {op : BinOp} {x y : ByteArray} {r : Bool} {v : V} (h : binStr op x y = some (r, v)) (hr : r = true) (t : TypeId) :
    ∃ v', (binOp op t (.string x) (.string y)).run E.P w = .ok v' w ∧ VR ρ v v' := by
  subst hr
  cases op <;> simp only [binStr, Option.some.injEq, Prod.mk.injEq] at h <;> first
    | (cases h; done)
    | (obtain ⟨h1, rfl⟩ := h
       simp only [binOp, Op.stringOp, strEq]
       first
         | exact ⟨_, rfl, .bool _⟩
         | (have h1 : ¬ ((x.size + y.size : Nat) : Int) > IntKind.i64.max := by rw [i64_max]; unfold joinOk at h1; have := Nat.le_of_ble_eq_true h1; omega
            rw [if_neg h1]; exact ⟨_, rfl, .str _⟩))

theorem kind_desc {t : TypeId} {k : Kind} (h : kindOf E t = some k) : ∃ d, E.P.underlying t = some d ∧ shapeK (shapeOf d) = some k := by
  obtain ⟨d, _, h1, _, h2, _⟩ := kind_spec h
  exact ⟨d, h1, h2⟩

theorem run_equal {t : TypeId} {x y : Value} : Op.equal t x y = Op.equalIn 10000 t x y := rfl

set_option maxHeartbeats 2000000 in
theorem eqOther_sound {t : TypeId} {nils : Bool} {a b : V} {a' b' : Value} {x y : Operand} {op : BinOp} {r q : Bool} (hc : nils = true → ∃ v, y = .const v)
    {D : Nat} (hD : 50 ≤ D + 1) (ha : VR ρ a a') (hb : VR ρ b b') (h : eqOther E t nils a b = some (r, q)) (hr : r = true) :
    (eqGuard op t x y a' b').run E.P w = .ok () w ∧ (Op.equalIn (D + 1) t a' b').run E.P w = .ok q w := by
  subst hr
  unfold eqOther at h
  split at h
  · split at h
    · rename_i hk
      obtain ⟨d, hu, hd⟩ := kind_desc hk
      simp only [Option.some.injEq, Prod.mk.injEq, true_and] at h
      cases ha; cases hb
      cases d <;> simp [shapeOf, shapeK] at hd
      refine ⟨by cases op <;> simp [eqGuard], by simp [Op.equalIn, run_underlying hu, ← h]⟩
    · cases h
  · split at h
    · rename_i hk
      obtain ⟨d, hu, hd⟩ := kind_desc hk
      simp only [Option.some.injEq, Prod.mk.injEq, true_and] at h
      cases hb
      cases d <;> simp [shapeOf, shapeK] at hd
      cases ha <;> exact ⟨by cases op <;> simp [eqGuard], by simp [Op.equalIn, run_underlying hu, ← h]⟩
    · cases h
  · split at h
    · rename_i hk
      obtain ⟨d, hu, hd⟩ := kind_desc hk
      simp only [Option.some.injEq, Prod.mk.injEq, true_and] at h
      cases ha
      cases d <;> simp [shapeOf, shapeK] at hd
      cases hb <;> exact ⟨by cases op <;> simp [eqGuard], by simp [Op.equalIn, run_underlying hu, ← h]⟩
    · cases h
  · split at h
    · rename_i hk
      obtain ⟨d, hu, hd⟩ := kind_desc hk
      simp only [Option.some.injEq, Prod.mk.injEq, true_and] at h
      cases hb
      cases d <;> simp [shapeOf, shapeK] at hd
      cases ha <;> exact ⟨by cases op <;> simp [eqGuard], by simp [Op.equalIn, run_underlying hu, ← h]⟩
    · cases h
  · split at h
    · rename_i hk
      obtain ⟨d, hu, hd⟩ := kind_desc hk
      simp only [Option.some.injEq, Prod.mk.injEq, true_and] at h
      cases ha
      cases d <;> simp [shapeOf, shapeK] at hd
      cases hb <;> exact ⟨by cases op <;> simp [eqGuard], by simp [Op.equalIn, run_underlying hu, ← h]⟩
    · cases h
  · split at h
    · rename_i hk
      obtain ⟨d, hu, hd⟩ := kind_desc hk
      simp only [Option.some.injEq, Prod.mk.injEq, true_and] at h
      cases hb
      cases d <;> simp [shapeOf, shapeK] at hd
      cases ha <;> exact ⟨by cases op <;> simp [eqGuard], by simp [Op.equalIn, run_underlying hu, ← h]⟩
    · cases h
  · split at h
    · rename_i hk
      obtain ⟨d, hu, hd⟩ := kind_desc hk
      simp only [Option.some.injEq, Prod.mk.injEq, true_and] at h
      cases ha
      cases d <;> simp [shapeOf, shapeK] at hd
      cases hb <;> exact ⟨by cases op <;> simp [eqGuard], by simp [Op.equalIn, run_underlying hu, ← h]⟩
    · cases h
  · rename_i xs ys
    split at h
    · rename_i ks b hk hb'
      simp only [Option.some.injEq, Prod.mk.injEq, Bool.and_eq_true, cellsEq, hb'] at h
      obtain ⟨⟨h1, h2⟩, rfl⟩ := h
      have hq := E.eq_ok t ks hk
      simp only [eqOk, Bool.and_eq_true, Bool.not_eq_true', decide_eq_true_eq] at hq
      obtain ⟨xs', rfl, hx, _⟩ := ha.agg_iff
      obtain ⟨ys', rfl, hy, _⟩ := hb.agg_iff
      refine ⟨run_eqGuard_agg w op t x y _ _ hq.1.1, ?_⟩
      have key := eq_flat (P := E.P) (ρ := ρ) 50 t ks hq.1.2 (D + 1) hD w xs ys xs'.toList ys'.toList (.agg xs') (.agg ys') b h1 h2 hx hy hb'
      have hq2 := hq.2
      split at hq2
      · rename_i d hu
        exact key ⟨d, hu, .inl ⟨hq2, by simp⟩⟩ ⟨d, hu, .inl ⟨hq2, by simp⟩⟩
      · cases hq2
    · cases h
  · split at h
    · rename_i hk
      obtain ⟨d, hu, hd⟩ := kind_desc hk
      simp only [Option.some.injEq, Prod.mk.injEq] at h
      obtain ⟨h1, h⟩ := h
      cases hb
      cases d <;> simp [shapeOf, shapeK] at hd
      cases ha <;> simp [V.isK] at h1 <;> exact ⟨by cases op <;> simp [eqGuard], by simp [Op.equalIn, run_underlying hu, ← h, V.isNilFunc]⟩
    · cases h
  · split at h
    · rename_i hk
      obtain ⟨d, hu, hd⟩ := kind_desc hk
      simp only [Option.some.injEq, Prod.mk.injEq] at h
      obtain ⟨h1, h⟩ := h
      cases ha
      cases d <;> simp [shapeOf, shapeK] at hd
      cases hb <;> simp [V.isK] at h1 <;> exact ⟨by cases op <;> simp [eqGuard], by simp [Op.equalIn, run_underlying hu, ← h, V.isNilFunc]⟩
    · cases h
  · cases nils
    · simp at h
    · simp only [cond_true] at h
      split at h
      · rename_i hk
        obtain ⟨d, hu, hd⟩ := kind_desc hk
        obtain ⟨c, rfl⟩ := hc rfl
        simp only [Option.some.injEq, Prod.mk.injEq] at h
        obtain ⟨h1, h⟩ := h
        cases hb
        cases d <;> simp [shapeOf, shapeK] at hd
        cases ha <;> simp [V.isK] at h1 <;> exact ⟨by cases op <;> simp [eqGuard], by simp [Op.equalIn, run_underlying hu, ← h, V.isNilIface]⟩
      · cases h
  · cases h

end
end Go.Am
