/- What loads and stores come to. -/
import Derived.Test.YtibkggbidojocaaDoorAmOps5
namespace Go.Am
set_option linter.unusedSimpArgs false
set_option linter.unusedVariables false
set_option linter.unusedSectionVars false

theorem fits_one : ∀ {ks : List Kind} {cs : List V}, fits ks cs = true → OneAll cs
  | [], [], _ => fun v hv => by cases hv
  | k :: ks, v :: vs, h => by
    simp only [fits, Bool.and_eq_true] at h
    intro x hx
    rcases List.mem_cons.1 hx with rfl | hx
    · exact V.one_of_isK h.1
    · exact fits_one h.2 x hx
  | [], _ :: _, h => by cases h
  | _ :: _, [], h => by cases h

/-- Nothing but one block has turned. -/
structure Only (b : Nat) (w w' : World) : Prop where
  other : ∀ b', b' ≠ b → w'.heap[b']? = w.heap[b']?
  size : w'.heap.size = w.heap.size
  os : w'.os = w.os
  tape : w'.tape = w.tape
  output : w'.output = w.output

theorem Only.refl (b : Nat) (w : World) : Only b w w := ⟨fun _ _ => rfl, rfl, rfl, rfl, rfl⟩
theorem Only.trans {b : Nat} {x y z : World} (h : Only b x y) (k : Only b y z) : Only b x z :=
  ⟨fun b' hb => (k.other b' hb).trans (h.other b' hb), k.size.trans h.size, k.os.trans h.os, k.tape.trans h.tape, k.output.trans h.output⟩

theorem only_setCell (w : World) (b o : Nat) (v : Value) : Only b w (w.setCell ⟨b, o, none⟩ v) where
  other := fun b' hb => by simp only [World.setCell, Array.getElem?_modify]; rw [if_neg (fun e => hb e.symm)]
  size := by simp [World.setCell]
  os := rfl
  tape := rfl
  output := rfl

theorem heap_setCell {w : World} {b : Nat} {cs : Array Value} {e : TypeId} {fz : Nat × Nat} (h : w.heap[b]? = some (.cells cs e fz)) (o : Nat) (v : Value) :
    (w.setCell ⟨b, o, none⟩ v).heap[b]? = some (.cells (cs.setIfInBounds o v) e fz) := by
  simp [World.setCell, Array.getElem?_modify, h]

theorem heap_setCells : ∀ (vs : List Value) {w : World} {b : Nat} {cs : Array Value} {e : TypeId} {fz : Nat × Nat} (o : Nat), w.heap[b]? = some (.cells cs e fz) →
    ∃ cs', (w.setCells b o vs).heap[b]? = some (.cells cs' e fz) ∧ cs'.toList = setManyL cs.toList o vs ∧ Only b w (w.setCells b o vs)
  | [], w, b, cs, e, fz, o, h => ⟨cs, h, rfl, .refl b w⟩
  | v :: vs, w, b, cs, e, fz, o, h => by
    obtain ⟨cs', h1, h2, h3⟩ := heap_setCells vs (o + 1) (heap_setCell h o v)
    refine ⟨cs', h1, ?_, (only_setCell w b o v).trans h3⟩
    rw [h2, setManyL]
    simp

theorem cell_at {w : World} {b : Nat} {cs : Array Value} {e : TypeId} {fz : Nat × Nat} (h : w.heap[b]? = some (.cells cs e fz)) (o : Nat) : w.cell? ⟨b, o, none⟩ = cs[o]? := by
  simp [World.cell?, h]

theorem frozen_at {w : World} {b : Nat} {cs : Array Value} {e : TypeId} {fz : Nat × Nat} (h : w.heap[b]? = some (.cells cs e fz)) (o : Nat) : w.frozen? ⟨b, o, none⟩ = (decide (fz.1 ≤ o) && decide (o < fz.2)) := by
  simp [World.frozen?, h]

section
variable {E : Env} {ρ lam : Ren} {w : World}

theorem run_loadVar_scalar {P : Program} {t : TypeId} {d : TypeDesc} (hu : P.underlying t = some d) (ha : aggD d = false) {a : Addr} {x : Value} (h : w.cell? a = some x) :
    (loadVar t a).run P w = .ok x w := by
  simp [loadVar, run_isAgg hu, ha, h]

theorem load_sound {t e : TypeId} {cs : List V} {off b : Nat} {r rw : Bool} {v : V} (hc : CellsR ρ e cs rw w.heap[b]?) (h : partOf E t cs off = some (r, v)) (hr : r = true) (ho : ∀ cs', v = .agg cs' → rw = true ∨ OneAll cs') :
    ∃ v', (loadVar t ⟨b, off, none⟩).run E.P w = .ok v' w ∧ VR ρ v v' := by
  obtain ⟨cs', fz, hb, hvs, hone, _⟩ := hc
  unfold partOf at h
  split at h
  · rename_i k hk
    obtain ⟨d, inf, hu, hi, _, ha⟩ := kind_spec hk
    simp only [Option.some.injEq, Prod.mk.injEq] at h
    have h1' := h.1.trans hr
    rw [Bool.and_eq_true] at h1'
    have hlt : off < cs.length := by simpa using h1'.1
    obtain ⟨y, hy, hv⟩ := hvs.nth hlt
    exact ⟨y, run_loadVar_scalar hu ha (by rw [cell_at hb]; simpa using hy), by rw [← h.2, V.asK_eq h1'.2]; exact hv⟩
  · split at h
    · rename_i ks n hks hn
      obtain ⟨d, inf, z, hu, hi, ha, _⟩ := kinds_spec hks
      simp only [Option.some.injEq, Prod.mk.injEq] at h
      have hle : off + n ≤ cs.length := Nat.le_of_ble_eq_true (h.1.trans hr)
      have hlen : cs'.size = cs.length := by have := hvs.1; simp at this; omega
      have hrun := run_loadCells_list (P := E.P) w ⟨b, off, none⟩ ((cs'.toList.drop off).take n) (by
        intro j v hv
        rw [add_addr, cell_at hb]
        rw [List.getElem?_take] at hv
        split at hv
        · rw [List.getElem?_drop] at hv
          simpa using hv
        · cases hv)
      have hl : ((cs'.toList.drop off).take n).length = n := by simp; omega
      rw [hl] at hrun
      refine ⟨.agg ((cs'.toList.drop off).take n).toArray, by simp [loadVar, run_isAgg hu, ha, run_size hn, hrun], ?_⟩
      rw [← h.2]
      have hp : OneAll ((cs.drop off).take n) := (ho _ h.2.symm).elim (fun hrw c hc => hone hrw c (List.mem_of_mem_drop (List.mem_of_mem_take hc))) id
      exact .mk_agg hp (by simpa using (hvs.drop off).take n)
    · cases h

theorem VRs.oneL {l : List V} {m : List Value} (h : VRs ρ l m) (h1 : OneAll l) : ∀ v ∈ m, v.oneCell' = true := by
  intro v hv
  obtain ⟨i, hi, rfl⟩ := List.getElem_of_mem hv
  have hi' : i < l.length := by have := h.1; omega
  exact (h.2 i l[i] m[i] (List.getElem?_eq_getElem hi') (List.getElem?_eq_getElem hi)).one (h1 _ (List.getElem_mem hi'))

theorem cells_store {e : TypeId} {cs vs : List V} {xs : List Value} {off b : Nat} (hc : CellsR ρ e cs true w.heap[b]?) (h1 : VRs ρ vs xs) (h2 : OneAll vs) (hle : off + vs.length ≤ cs.length) :
    ∃ w', (storeCells ⟨b, off, none⟩ xs).run E.P w = .ok () w' ∧ CellsR ρ e (setMany cs off vs) true w'.heap[b]? ∧ Only b w w' := by
  obtain ⟨cs', fz, hb, hvs, hone, hfz⟩ := hc
  have hlen : cs'.size = cs.length := by have := hvs.1; simp at this; omega
  have hxl : xs.length = vs.length := h1.1.symm
  have hst := run_storeCells_cells (P := E.P) b off xs 0 w (by
      intro j hj
      rw [cell_at hb, Array.getElem?_eq_getElem (by omega)]; rfl) (by
      intro j hj
      rw [frozen_at hb]
      have := hfz rfl
      simp only [Bool.and_eq_false_iff, decide_eq_false_iff_not]
      omega) (h1.oneL h2)
  obtain ⟨cs2, h3, h4, h5⟩ := heap_setCells xs (off + 0) hb
  refine ⟨_, ?_, ⟨cs2, fz, h3, ?_, fun _ => setMany_one h2 (hone rfl), ?_⟩, h5⟩
  · simpa using hst
  · rw [h4]; exact setMany_rel h1 hvs
  · intro _
    have hsz : cs2.size = cs'.size := by
      have := congrArg List.length h4
      rw [setManyL_length] at this
      simpa using this
    rw [hsz]; exact hfz rfl

theorem store_sound {t e : TypeId} {cs : List V} {off b : Nat} {r : Bool} {v : V} {x : Value} {vs : List V} (hc : CellsR ρ e cs true w.heap[b]?) (hv : VR ρ v x)
    (h : cellsFor E t v = some (r, vs)) (hr : r = true) (hle : off + vs.length ≤ cs.length) :
    ∃ w', (storeVar t ⟨b, off, none⟩ x).run E.P w = .ok () w' ∧ CellsR ρ e (setMany cs off vs) true w'.heap[b]? ∧ Only b w w' := by
  obtain ⟨h1, h2⟩ := cellsFor_sound hv h hr
  have hn := cellsFor_size h hr
  have hxl : x.cells.size = vs.length := by have := h1.1; simp at this; omega
  obtain ⟨w', h3, h4, h5⟩ := cells_store (E := E) hc h1 h2 hle
  exact ⟨w', by simp [storeVar, run_size hn, hxl, h3], h4, h5⟩

end
end Go.Am
