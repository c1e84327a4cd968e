/- What comes in: memory at the start, rows of bytes. -/
import Derived.Test.YtibkggbidojocaaDoorAmRow
import Derived.Test.YtibkggbidojocaaDoorAmLaw
namespace Go.Am
set_option linter.unusedSimpArgs false
set_option linter.unusedVariables false
set_option linter.unusedSectionVars false

theorem memStart (W : World) : Sat (heapOf W) (heapOf W) [] := by
  refine Sat.start ?_ ?_
  · intro id o h
    obtain ⟨cs, e, fz, hb, rfl⟩ := heapOf_get h
    show id < W.heap.size
    rcases Nat.lt_or_ge id W.heap.size with h | h
    · exact h
    · rw [Array.getElem?_eq_none h] at hb; cases hb
  · intro id o h
    obtain ⟨cs, e, fz, hb, rfl⟩ := heapOf_get h
    exact ⟨e, _, rfl⟩

theorem inb_obj {H : Heap} {id off n : Nat} (h : H.inb id off n = true) : ∃ e l ro, H.get id = some (.cells e l ro) ∧ off + n ≤ l.length := by
  unfold Heap.inb at h
  split at h
  · rename_i e l ro hg
    exact ⟨e, l, ro, hg, by simpa using h⟩
  · cases h

/-- A row of bytes that came in. -/
theorem bytes_in {P : Program} {H : Heap} {t : TypeId} {q : Option (Nat × Nat)} {len cap : Nat} (hu : P.underlying t = some (.int .u8)) (hc : P.cellsOf t = 1) (h : SlTy P H t q len cap) :
    ∃ bs : List UInt8, bs.length = len ∧ RdB H q bs ∧ len ≤ cap ∧ len ≤ maxLen := by
  obtain ⟨h1, hmax, _, n, h2⟩ := h
  rw [hc] at h2
  have key : ∀ i, ∃ b : UInt8, i < len → ∃ id off, q = some (id, off) ∧ H.inb id (off + i) 1 = true ∧ H.sub id (off + i) 1 = [.int .u8 (b.toNat : Int)] := by
    intro i
    by_cases hi : i < len
    · obtain ⟨id, off, e1, _, e3, e4⟩ := h2 i (by omega)
      simp only [Nat.mul_one] at e3 e4
      have hl : ∃ x, H.sub id (off + i) 1 = [x] := by
        obtain ⟨e, l, ro, hg, hle⟩ := inb_obj e3
        have : (H.sub id (off + i) 1).length = 1 := by rw [sub_get hg]; simp; omega
        match hs : H.sub id (off + i) 1, this with
        | [x], _ => exact ⟨x, rfl⟩
      obtain ⟨x, hx⟩ := hl
      rw [hx] at e4
      obtain ⟨y, rfl, hy1, hy2⟩ := ty_int (P := P) hu e4
      have m1 : IntKind.u8.min = 0 := by decide
      have m2 : IntKind.u8.max = 255 := by decide
      rw [m1] at hy1
      rw [m2] at hy2
      refine ⟨UInt8.ofNat y.toNat, fun _ => ⟨id, off, e1, e3, ?_⟩⟩
      rw [hx]
      simp
      omega
    · exact ⟨0, fun h => absurd h hi⟩
  refine ⟨(List.range len).map fun i => Classical.choose (key i), by simp, ?_, h1, by omega⟩
  by_cases h0 : len = 0
  · subst h0; exact .inl rfl
  · obtain ⟨id, off, e1, e2, _⟩ := Classical.choose_spec (key 0) (by omega)
    obtain ⟨e, l, ro, hg, _⟩ := inb_obj e2
    refine .inr ⟨id, off, e, l, ro, e1, hg, ?_⟩
    apply List.ext_getElem?
    intro i
    rw [bcells_len, List.length_map, List.length_range, List.getElem?_take]
    by_cases hi : i < len
    · obtain ⟨id', off', e1', e2', e3'⟩ := Classical.choose_spec (key i) hi
      rw [e1] at e1'
      cases e1'
      rw [sub_get hg] at e3'
      rw [if_pos hi, List.getElem?_drop]
      simp only [bcells, List.map_map, List.getElem?_map, List.getElem?_range hi, Option.map_some, Function.comp]
      have := congrArg (fun m => m[0]?) e3'
      simpa using this
    · rw [if_neg hi]
      simp [bcells, hi]

theorem take_rows {l : List V} {off n : Nat} {f : Nat → List V} : ∀ (len : Nat), (∀ i, i < len → (l.drop (off + i * n)).take n = f i ∧ (f i).length = n) → (l.drop off).take (len * n) = ((List.range len).map f).flatten
  | 0, _ => by simp
  | k + 1, h => by
    rw [List.range_succ, List.map_append, List.flatten_append, ← take_rows k (fun i hi => h i (by omega))]
    rw [Nat.add_mul, Nat.one_mul, List.take_add, List.drop_drop, (h k (by omega)).1]
    simp

/-- A row of elements that came in. -/
theorem rows_in {P : Program} {H : Heap} {t : TypeId} {q : Option (Nat × Nat)} {len cap n : Nat} (hc : P.cellsOf t = n) (h : SlTy P H t q len cap) :
    ∃ (css : List (List V)) (m : Nat), css.length = len ∧ Rd H q css.flatten ∧ (∀ c ∈ css, c.length = n ∧ tyC P H m t c) ∧ len ≤ cap ∧ len ≤ maxLen := by
  obtain ⟨h1, hmax, _, m, h2⟩ := h
  rw [hc] at h2
  have key : ∀ i, ∃ c : List V, i < len → ∃ id off, q = some (id, off) ∧ H.inb id (off + i * n) n = true ∧ H.sub id (off + i * n) n = c ∧ c.length = n ∧ tyC P H m t c := by
    intro i
    by_cases hi : i < len
    · obtain ⟨id, off, e1, _, e3, e4⟩ := h2 i (by omega)
      refine ⟨_, fun _ => ⟨id, off, e1, e3, rfl, ?_, e4⟩⟩
      obtain ⟨e, l, ro, hg, hle⟩ := inb_obj e3
      rw [sub_get hg]; simp; omega
    · exact ⟨[], fun h => absurd h hi⟩
  refine ⟨(List.range len).map fun i => Classical.choose (key i), m, by simp, ?_, ?_, h1, by omega⟩
  · by_cases h0 : len = 0
    · subst h0; exact .inl rfl
    · obtain ⟨id, off, e1, e2, _⟩ := Classical.choose_spec (key 0) (by omega)
      obtain ⟨e, l, ro, hg, _⟩ := inb_obj e2
      refine .inr ⟨id, off, e, l, ro, e1, hg, ?_⟩
      have hrows := take_rows (l := l) (off := off) (n := n) (f := fun i => Classical.choose (key i)) len (fun i hi => by
        obtain ⟨id', off', e1', _, e3', e4', _⟩ := Classical.choose_spec (key i) hi
        rw [e1] at e1'
        cases e1'
        rw [sub_get hg] at e3'
        exact ⟨e3', e4'⟩)
      have hlen : ((List.range len).map fun i => Classical.choose (key i)).flatten.length = len * n := by
        rw [← hrows, List.length_take, List.length_drop]
        obtain ⟨id', off', e1', e2', _⟩ := Classical.choose_spec (key (len - 1)) (by omega)
        rw [e1] at e1'
        cases e1'
        rw [inb_get hg] at e2'
        have := Nat.le_of_ble_eq_true e2'
        have e : (len - 1) * n + n = len * n := by rw [← Nat.succ_mul]; congr 1; omega
        omega
      rw [hlen]
      exact hrows
  · intro c hc
    obtain ⟨i, hi, rfl⟩ := List.mem_map.1 hc
    obtain ⟨_, _, _, _, _, e4, e5⟩ := Classical.choose_spec (key i) (List.mem_range.1 hi)
    exact ⟨e4, e5⟩

theorem tmod_pos {a b : Int} (h : 0 ≤ a) : Int.tmod a b = a % b := Int.tmod_eq_emod_of_nonneg h

end Go.Am
