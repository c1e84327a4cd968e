/- Rows of cells in the machine: what append, copy, clear and make do with them. -/
import Derived.Test.YtibkggbidojocaaDoorAmStep
import Derived.Laws.Append
import Derived.Laws.AppendOwn
import Derived.IntWalk
namespace Go.Am
set_option linter.unusedSimpArgs false
set_option linter.unusedVariables false
set_option linter.unusedSectionVars false

section
variable {E : Env} {H0 : Heap} {ρ0 : Ren} {w0 : World} {ann : Ann} {N : Nat} {ρ lam : Ren} {S : St} {a : Act} {w : World}

theorem hr_cells {H : Heap} (hr : HR ρ H w) {id off n : Nat} (h : H.inb id off n = true) : ∃ e cs ro, H.get id = some (.cells e cs ro) ∧ off + n ≤ cs.length ∧
    ∃ b, ρ id = some b ∧ CellsR ρ e cs (!ro) w.heap[b]? := by
  unfold Heap.inb at h
  split at h
  · rename_i e cs ro hg
    obtain ⟨b, h1, h2⟩ := hr.obj id _ hg
    exact ⟨e, cs, ro, hg, Nat.le_of_ble_eq_true h, b, h1, h2⟩
  · cases h

theorem repV_len : ∀ (n : Nat) (l : List V), (repV n l).length = n * l.length
  | 0, l => by simp [repV]
  | n + 1, l => by simp [repV, repV_len n l, Nat.add_mul]; omega

theorem repV_one {l : List V} (h : OneAll l) : ∀ n : Nat, OneAll (repV n l)
  | 0 => fun v hv => by simp [repV] at hv
  | n + 1 => fun v hv => by
    simp only [repV, List.mem_append] at hv
    exact hv.elim (h v) (repV_one h n v)

theorem repV_get {l : List V} (hl : 0 < l.length) : ∀ (n i : Nat), i < n * l.length → (repV n l)[i]? = l[i % l.length]?
  | 0, i, h => by simp at h
  | n + 1, i, h => by
    by_cases hi : i < l.length
    · rw [repV, List.getElem?_append_left hi, Nat.mod_eq_of_lt hi]
    · have hi : l.length ≤ i := by omega
      rw [repV, List.getElem?_append_right hi, repV_get hl n (i - l.length) (by rw [Nat.add_mul] at h; omega), ← Nat.mod_eq_sub_mod hi]

/-- A row of zero values. -/
theorem repV_rel {z : List V} {z' : Array Value} {n k : Nat} (hz : VRs ρ z z'.toList) (hn : z.length = n) (hp : 0 < n) :
    VRs ρ (repV k z) ((Array.range (k * n)).map (z'[· % z'.size]!)).toList := by
  have hs : z'.size = n := by have := hz.1; simp at this; omega
  refine ⟨by simp [repV_len, hn], ?_⟩
  intro i x y hx hy
  have hi : i < k * n := by
    rcases Nat.lt_or_ge i (k * n) with h | h
    · exact h
    · rw [List.getElem?_eq_none (by rw [repV_len, hn]; exact h)] at hx; cases hx
  rw [repV_get (by omega) k i (by rw [hn]; exact hi), hn] at hx
  have hm : i % n < n := Nat.mod_lt _ hp
  refine hz.2 (i % n) x y hx ?_
  have hy' : z'[i % z'.size]! = y := by simpa [hi] using hy
  rw [hs, getElem!_pos z' (i % n) (by omega)] at hy'
  rw [← hy', Array.getElem?_toList, Array.getElem?_eq_getElem (by omega)]

theorem allOne_iff : ∀ {l : List V}, allOne l = true ↔ OneAll l
  | [] => by simp [allOne, OneAll]
  | v :: l => by
    rw [allOne, Bool.and_eq_true, allOne_iff]
    simp [OneAll]

theorem OneAll.append {l m : List V} (h : OneAll l) (k : OneAll m) : OneAll (l ++ m) := by
  intro v hv
  rcases List.mem_append.1 hv with hv | hv
  · exact h v hv
  · exact k v hv

theorem strCells_one (s : ByteArray) : OneAll (strCells s) := by
  intro v hv
  simp only [strCells, List.mem_map] at hv
  obtain ⟨b, _, rfl⟩ := hv
  rfl

theorem strCells_rel (ρ : Ren) (s : ByteArray) : VRs ρ (strCells s) (s.data.map fun b => Value.int .u8 b.toNat).toList := by
  refine ⟨by simp [strCells], ?_⟩
  intro i x y hx hy
  simp only [strCells, List.getElem?_map, Array.toList_map, Option.map_eq_some_iff] at hx hy
  obtain ⟨b, hb, rfl⟩ := hx
  obtain ⟨b', hb', rfl⟩ := hy
  rw [hb] at hb'
  cases hb'
  exact .int _ _

theorem strCells_len (s : ByteArray) : (strCells s).length = s.size := by
  unfold strCells; rw [List.length_map]; rfl

theorem sub_len {H : Heap} {id off n : Nat} (h : H.inb id off n = true) : (H.sub id off n).length = n := by
  unfold Heap.inb at h
  split at h
  · rename_i e cs ro hg
    have := Nat.le_of_ble_eq_true h
    simp [Heap.sub, Heap.cs, hg]; omega
  · cases h

/-- What a row of memory holds. -/
theorem loadCells_sound {H : Heap} (hr : HR ρ H w) {id off n b : Nat} (hb : ρ id = some b) (h : H.inb id off n = true) :
    ∃ xs, (loadCells ⟨b, off, none⟩ n).run E.P w = .ok xs w ∧ VRs ρ (H.sub id off n) xs.toList := by
  obtain ⟨e, cs, ro, hg, hle, b', hb', cs', fz, hcell, hvs, _, _⟩ := hr_cells hr h
  rw [hb] at hb'
  cases hb'
  have hsub : H.sub id off n = (cs.drop off).take n := by simp [Heap.sub, Heap.cs, hg]
  have hlen : cs'.size = cs.length := by have := hvs.1; simp at this; omega
  have hrun := run_loadCells_list (P := E.P) w ⟨b, off, none⟩ ((cs'.toList.drop off).take n) (by
    intro j v hv
    rw [add_addr, cell_at hcell]
    rw [List.getElem?_take] at hv
    split at hv
    · rw [List.getElem?_drop] at hv
      simpa using hv
    · cases hv)
  have hl : ((cs'.toList.drop off).take n).length = n := by simp; omega
  rw [hl] at hrun
  exact ⟨_, hrun, by rw [hsub]; simpa using (hvs.drop off).take n⟩

theorem firstCells_zero {n : Nat} {x : Value} {m : Nat} (hx : Builtin.lenOf x = pure m) : (Builtin.firstCells n 0 x).run E.P w = .ok #[] w := by
  cases x with
  | string s => simp [Builtin.firstCells]
  | slice p l c => cases p <;> simp [Builtin.firstCells, loadCells, loadCellsFrom]
  | _ => exact absurd hx (by simp [Builtin.lenOf, stuck])

/-- The elements that append, or copy, takes. -/
theorem src_sound {H : Heap} (hr : HR ρ H w) {x : V} {x' : Value} (hx : VR ρ x x') {n m : Nat} {ok : Nat → Bool} {cs : Nat → List V} (hs : srcOf H n x = some (m, ok, cs)) :
    Builtin.lenOf x' = pure m ∧ ∀ k, k ≤ m → (k = 0 ∨ ok k = true) →
      ∃ xs, (Builtin.firstCells n k x').run E.P w = .ok xs w ∧ VRs ρ (cs k) xs.toList ∧ OneAll (cs k) ∧ (cs k).length = k * n := by
  cases x with
  | slice p len cap =>
    simp only [srcOf, Option.some.injEq, Prod.mk.injEq] at hs
    obtain ⟨rfl, rfl, rfl⟩ := hs
    have hl : Builtin.lenOf x' = pure len := by cases hx <;> rfl
    refine ⟨hl, fun k hk hok => ?_⟩
    by_cases h0 : k = 0
    · subst h0
      exact ⟨#[], firstCells_zero hl, by simpa using VRs.nil ρ, fun v hv => by simp at hv, by simp⟩
    · have hz : Nat.beq k 0 = false := by rw [beq_iff]; simp [h0]
      have hok := hok.resolve_left h0
      simp only [rowOk, hz, Bool.false_or, Bool.and_eq_true] at hok
      obtain ⟨hp, hi, ho⟩ := hok
      simp only [hz, cond_false]
      cases p with
      | none => cases hp
      | some q =>
        obtain ⟨id, off⟩ := q
        rcases hx.slice_eq with ⟨b, hb, rfl⟩ | ⟨h1, _, _⟩
        · obtain ⟨xs, h1, h2⟩ := loadCells_sound (E := E) hr hb hi
          exact ⟨xs, h1, h2, allOne_iff.1 ho, sub_len hi⟩
        · omega
  | str s =>
    simp only [srcOf, Option.some.injEq, Prod.mk.injEq] at hs
    obtain ⟨rfl, rfl, rfl⟩ := hs
    cases hx
    refine ⟨rfl, fun k hk hok => ?_⟩
    have hext : ((s.extract 0 k).data.map fun b => Value.int .u8 b.toNat).toList = ((s.data.map fun b => Value.int .u8 b.toNat).toList).take k := by
      simp [ByteArray.data_extract, List.map_take]
    refine ⟨_, rfl, ?_, fun v hv => strCells_one s v (List.mem_of_mem_take hv), ?_⟩
    · rw [hext]
      exact (strCells_rel ρ s).take k
    · rcases hok with rfl | hok
      · simp
      · have : n = 1 := Nat.eq_of_beq_eq_true hok
        subst this
        simp [strCells_len]; omega
  | _ => simp [srcOf] at hs

theorem elem_spec {t el n by' : Nat} {z : List V} (h : elemOf E t = some (el, n, by', z)) : ∃ inf z', E.P.underlying t = some (.slice el) ∧ E.P.info? el = some inf ∧
    inf.zero = some z' ∧ inf.size = n ∧ inf.bytes = by' ∧ z.length = n ∧ 0 < n ∧ z'.cells.size = n ∧ OneAll z ∧ ∀ ρ, VRs ρ z z'.cells.toList := by
  unfold elemOf at h
  split at h
  · rename_i ti hti
    obtain ⟨ds, hus, hds⟩ := shape_ti hti
    split at h
    · rename_i e hsh
      rw [hsh] at hds
      cases desc_slice hds
      split at h
      · rename_i ei hei
        obtain ⟨inf, dt, hi, hu, hd, hsz, hby, hz'⟩ := ti_spec hei
        split at h
        · rename_i zv hz
          cases hb : (Nat.beq zv.cells.length ei.size && natPos ei.size) with
          | false => simp [hb] at h
          | true =>
            simp only [hb, cond_true, Option.some.injEq, Prod.mk.injEq] at h
            obtain ⟨rfl, rfl, rfl, rfl⟩ := h
            rw [Bool.and_eq_true] at hb
            have hn : zv.cells.length = ei.size := Nat.eq_of_beq_eq_true hb.1
            have hp : 0 < ei.size := by
              have := hb.2
              cases h : ei.size with
              | zero => rw [h] at this; cases this
              | succ n => omega
            rw [hz] at hz'
            obtain ⟨z', hz1, hz2⟩ := Option.bind_eq_some_iff.1 hz'
            have hrel : ∀ ρ, VRs ρ zv.cells z'.cells.toList := fun ρ => (ofValueA_VR hz2).cells (fun e => by have := ofValueA_one hz2; rw [e] at this; have := this .hole (by simp [V.cells]); cases this)
            refine ⟨inf, z', hus, hi, hz1, hsz, hby, hn, hp, ?_, ofValueA_one hz2, hrel⟩
            have := (hrel (fun _ => none)).1
            simp at this
            omega
        · cases h
      · cases h
    · cases h
  · cases h

theorem zeroRow_rel {z : List V} {z' : Array Value} {n : Nat} (hz : VRs ρ z z'.toList) (hn : z.length = n) (hp : 0 < n) (k : Nat) :
    VRs ρ (repV k z) (Builtin.zeroCells z' k).toList := by
  have hs : z'.size = n := by have := hz.1; simp at this; omega
  unfold Builtin.zeroCells
  rw [hs]
  simpa [hs] using repV_rel hz hn hp (k := k)

theorem storeCells_nil (a : Addr) : (storeCells a []).run E.P w = .ok () w := by simp [storeCells]

theorem not_int {u : TypeId} (h : notInt (kindOf E u) = true) : ∃ d, E.P.underlying u = some d ∧ (d = .string ∨ ∃ e, d = .slice e) := by
  cases hk : kindOf E u with
  | none => rw [hk] at h; cases h
  | some k =>
    obtain ⟨d, hu, hd⟩ := kind_desc hk
    refine ⟨d, hu, ?_⟩
    rw [hk] at h
    cases d <;> simp [shapeOf, shapeK] at hd <;> first | (exact .inl rfl) | (exact .inr ⟨_, rfl⟩) | (subst hd; cases h)

theorem run_append_in {t u el ty : TypeId} {du : TypeDesc} {inf : TypeInfo} (hut : E.P.underlying t = some (.slice el)) (huu : E.P.underlying u = some du) (hdu : du = .string ∨ ∃ e, du = .slice e) (hi : E.P.info? el = some inf)
    {base : Option Addr} {l cp m : Nat} {x' : Value} (hlen : Builtin.lenOf x' = pure m) (hroom : l + m ≤ cp) {xs : Array Value} (hf : (Builtin.firstCells inf.size m x').run E.P w = .ok xs w) {w' : World}
    (hst : (match base with | some a => storeCells (a.add (l * inf.size)) xs.toList | none => pure ()).run E.P w = .ok () w') :
    (Builtin.append_ #[t, u] ty #[.slice base l cp, x']).run E.P w = .ok (.slice base (l + m) cp) w' := by
  cases base with
  | none =>
    simp at hst
    subst hst
    rcases hdu with rfl | ⟨e, rfl⟩ <;> simp [Builtin.append_, run_underlying hut, run_underlying huu, sizeOf, typeInfo, hi, hlen, hroom, hf]
  | some ad =>
    rcases hdu with rfl | ⟨e, rfl⟩ <;> simp [Builtin.append_, run_underlying hut, run_underlying huu, sizeOf, typeInfo, hi, hlen, hroom, hf, hst]

theorem run_append_out {t u el ty : TypeId} {du : TypeDesc} {inf : TypeInfo} {z' : Value} (hut : E.P.underlying t = some (.slice el)) (huu : E.P.underlying u = some du) (hdu : du = .string ∨ ∃ e, du = .slice e) (hi : E.P.info? el = some inf)
    (hz : inf.zero = some z') {base : Option Addr} {l cp m : Nat} {x' : Value} (hlen : Builtin.lenOf x' = pure m) (hroom : ¬ l + m ≤ cp) (hbig : (l + m) * (inf.bytes + 1) ≤ 70368744177664) {os xs : Array Value}
    (hfo : (Builtin.firstCells inf.size l (.slice base l cp)).run E.P w.drew = .ok os w.drew) (hf : (Builtin.firstCells inf.size m x').run E.P w.drew = .ok xs w.drew) :
    (Builtin.append_ #[t, u] ty #[.slice base l cp, x']).run E.P w = .ok (.slice (some ⟨w.heap.size, 0, none⟩) (l + m) (grownCap w (l + m) cp el))
      (w.drew.alloc (.cells (os ++ xs ++ Builtin.zeroCells z'.cells (grownCap w (l + m) cp el - (l + m))) el)) := by
  have h1 : (l + m) * inf.bytes ≤ 70368744177664 := Nat.le_trans (Nat.mul_le_mul_left _ (by omega)) hbig
  have h2 : l + m ≤ 70368744177664 := Nat.le_trans (Nat.le_mul_of_pos_right _ (by omega)) hbig
  have h63' : ¬ (9223372036854775807 < ((l : Int) + (m : Int))) := by omega
  have hg := growslice_fits (need := l + m) (old := cp) (bytes := inf.bytes) (by omega) (by omega)
  have h48' : ¬ (281474976710656 < Builtin.nextslicecap (l + m) cp * inf.bytes) := by omega
  rcases hdu with rfl | ⟨e, rfl⟩ <;> simp [Builtin.append_, run_underlying hut, run_underlying huu, sizeOf, typeInfo, zeroValue, hi, hz, hlen, hroom, h63', h48', Question.forced, hf, hfo, newRow, grownCap]

theorem run_append_in0 {t u el ty : TypeId} {inf : TypeInfo} {z' : Value} (hut : E.P.underlying t = some (.slice el)) (huu : E.P.underlying u = some (.int .i64)) (hi : E.P.info? el = some inf)
    (hz : inf.zero = some z') (hpos : 0 < inf.size) {base : Option Addr} {l cp : Nat} {m : Int} (h0 : 0 ≤ m) (hb : m * (inf.bytes + 1) ≤ 70368744177664) (hroom : l + m.toNat ≤ cp) {w' : World}
    (hst : (match base with | some a => storeCells (a.add (l * inf.size)) (Builtin.zeroCells z'.cells m.toNat).toList | none => pure ()).run E.P w = .ok () w') :
    (Builtin.append_ #[t, u] ty #[.slice base l cp, .int .i64 m]).run E.P w = .ok (.slice base (l + m.toNat) cp) w' := by
  have hm1 : m * 1 ≤ m * (inf.bytes + 1) := Int.mul_le_mul_of_nonneg_left (by omega) h0
  have hm2 : m * inf.bytes ≤ m * (inf.bytes + 1) := Int.mul_le_mul_of_nonneg_left (by omega) h0
  have hw1 : IntKind.i64.wrap m = m := IntWalk.i64_in _ ⟨by omega, by omega⟩
  have e1 : ¬ (281474976710656 < m * (inf.bytes : Int)) := by omega
  have e3 : ¬ m < 0 := by omega
  by_cases hn : m.toNat * inf.size = 0
  · have hm0 : m.toNat = 0 := by
      rcases Nat.mul_eq_zero.1 hn with h | h
      · exact h
      · omega
    have hzc : Builtin.zeroCells z'.cells 0 = #[] := by simp [Builtin.zeroCells]
    rw [hm0, hzc] at hst
    cases base with
    | none =>
      simp at hst
      subst hst
      simp [Builtin.append_, run_underlying hut, run_underlying huu, sizeOf, typeInfo, zeroValue, hi, hz, hw1, e1, e3, hm0, hroom, asInt, asIntOf]
      omega
    | some ad =>
      simp at hst
      simp [Builtin.append_, run_underlying hut, run_underlying huu, sizeOf, typeInfo, zeroValue, hi, hz, hw1, e1, e3, hm0, hroom, asInt, asIntOf, hst]
      omega
  · cases base with
    | none =>
      simp at hst
      subst hst
      simp [Builtin.append_, run_underlying hut, run_underlying huu, sizeOf, typeInfo, zeroValue, hi, hz, hw1, e1, e3, hn, hroom, asInt, asIntOf]
    | some ad =>
      simp [Builtin.append_, run_underlying hut, run_underlying huu, sizeOf, typeInfo, zeroValue, hi, hz, hw1, e1, e3, hn, hroom, asInt, asIntOf, hst]

theorem run_append_out0 {t u el ty : TypeId} {inf : TypeInfo} {z' : Value} (hut : E.P.underlying t = some (.slice el)) (huu : E.P.underlying u = some (.int .i64)) (hi : E.P.info? el = some inf)
    (hz : inf.zero = some z') (hpos : 0 < inf.size) {base : Option Addr} {l cp : Nat} {m : Int} (h0 : 0 ≤ m) (hb : m * (inf.bytes + 1) ≤ 70368744177664) (hroom : ¬ l + m.toNat ≤ cp) (hbig : (l + m.toNat) * (inf.bytes + 1) ≤ 70368744177664) {os : Array Value}
    (hfo : (Builtin.firstCells inf.size l (.slice base l cp)).run E.P w.drew = .ok os w.drew) :
    (Builtin.append_ #[t, u] ty #[.slice base l cp, .int .i64 m]).run E.P w = .ok (.slice (some ⟨w.heap.size, 0, none⟩) (l + m.toNat) (grownCap w (l + m.toNat) cp el))
      (w.drew.alloc (.cells (os ++ Builtin.zeroCells z'.cells m.toNat ++ Builtin.zeroCells z'.cells (grownCap w (l + m.toNat) cp el - (l + m.toNat))) el)) := by
  have hm1 : m * 1 ≤ m * (inf.bytes + 1) := Int.mul_le_mul_of_nonneg_left (by omega) h0
  have hm2 : m * inf.bytes ≤ m * (inf.bytes + 1) := Int.mul_le_mul_of_nonneg_left (by omega) h0
  have hw1 : IntKind.i64.wrap m = m := IntWalk.i64_in _ ⟨by omega, by omega⟩
  have e1 : ¬ (281474976710656 < m * (inf.bytes : Int)) := by omega
  have e3 : ¬ m < 0 := by omega
  have h1 : (l + m.toNat) * inf.bytes ≤ 70368744177664 := Nat.le_trans (Nat.mul_le_mul_left _ (by omega)) hbig
  have h2 : l + m.toNat ≤ 70368744177664 := Nat.le_trans (Nat.le_mul_of_pos_right _ (by omega)) hbig
  have h63' : ¬ (9223372036854775807 < ((l : Int) + (m.toNat : Int))) := by omega
  have h63 : ¬ (9223372036854775807 < ((l : Int) + max m 0)) := by omega
  have hg := growslice_fits (need := l + m.toNat) (old := cp) (bytes := inf.bytes) (by omega) (by omega)
  have h48' : ¬ (281474976710656 < Builtin.nextslicecap (l + m.toNat) cp * inf.bytes) := by omega
  by_cases hn : m.toNat * inf.size = 0
  · have hm0 : m.toNat = 0 := by
      rcases Nat.mul_eq_zero.1 hn with h | h
      · exact h
      · omega
    have hzc : Builtin.zeroCells z'.cells 0 = #[] := by simp [Builtin.zeroCells]
    rw [hm0] at hroom h63' h48' ⊢
    have hm00 : m = 0 := by omega
    subst hm00
    have hroom2 : ¬ l ≤ cp := by simpa using hroom
    have h63b : ¬ (9223372036854775807 : Int) < (l : Int) := by simpa using h63'
    have h48b : ¬ (281474976710656 < Builtin.nextslicecap l cp * inf.bytes) := by simpa using h48'
    simp [Builtin.append_, hroom2, h63b, h48b, run_underlying hut, run_underlying huu, sizeOf, typeInfo, zeroValue, hi, hz, hw1, hroom, h63', h48', Question.forced, hfo, newRow, grownCap, asInt, asIntOf, hzc]
  · simp [Builtin.append_, run_underlying hut, run_underlying huu, sizeOf, typeInfo, zeroValue, hi, hz, hw1, e1, e3, hn, hroom, h63', h63, h48', Question.forced, hfo, newRow, grownCap, asInt, asIntOf]

theorem noInt0 {x : Value} {k : IntKind} {n : Int} (h : VR ρ (.int k n) x) : x = .int k n := h.int_eq

/-- How what is laid behind comes to the machine. -/
structure AppR (E : Env) (t u ty el : TypeId) (inf : TypeInfo) (z' : Value) (x' : Value) (m : Nat) (A : World → Array Value → Prop) : Prop where
  inn : ∀ {w w' : World} {base : Option Addr} {l cp : Nat} {xs : Array Value}, l + m ≤ cp → A w xs → (match base with | some a => storeCells (a.add (l * inf.size)) xs.toList | none => pure ()).run E.P w = .ok () w' →
    (Builtin.append_ #[t, u] ty #[.slice base l cp, x']).run E.P w = .ok (.slice base (l + m) cp) w'
  out : ∀ {w : World} {base : Option Addr} {l cp : Nat} {os xs : Array Value}, ¬ l + m ≤ cp → (l + m) * (inf.bytes + 1) ≤ 70368744177664 → (Builtin.firstCells inf.size l (.slice base l cp)).run E.P w.drew = .ok os w.drew → A w.drew xs →
    (Builtin.append_ #[t, u] ty #[.slice base l cp, x']).run E.P w = .ok (.slice (some ⟨w.heap.size, 0, none⟩) (l + m) (grownCap w (l + m) cp el))
      (w.drew.alloc (.cells (os ++ xs ++ Builtin.zeroCells z'.cells (grownCap w (l + m) cp el - (l + m))) el))

theorem appSrc_sound {H : Heap} {t u ty el n by' : Nat} {z : List V} {inf : TypeInfo} {z' : Value} (hut : E.P.underlying t = some (.slice el)) (hi : E.P.info? el = some inf) (hz : inf.zero = some z') (hsz : inf.size = n) (hby : inf.bytes = by')
    (hzl : z.length = n) (hpos : 0 < n) (hzs : z'.cells.size = n) (hzo : OneAll z) (hzr : ∀ ρ, VRs ρ z z'.cells.toList) {x : V} {x' : Value} (hx : VR ρ x x') {r : Bool} {m : Nat} {ok : Nat → Bool} {cs : Nat → List V}
    (hs : appSrc H n by' z (kindOf E u) x = some (r, m, ok, cs)) (hr : r = true) : ∃ A : World → Array Value → Prop, AppR E t u ty el inf z' x' m A ∧
      ∀ w, HR ρ H w → (m = 0 ∨ ok m = true) → ∃ xs, A w xs ∧ VRs ρ (cs m) xs.toList ∧ OneAll (cs m) ∧ (cs m).length = m * n := by
  subst hr
  subst hsz
  subst hby
  have key : notInt (kindOf E u) = true → srcOf H inf.size x = some (m, ok, cs) → ∃ A : World → Array Value → Prop, AppR E t u ty el inf z' x' m A ∧
      ∀ w, HR ρ H w → (m = 0 ∨ ok m = true) → ∃ xs, A w xs ∧ VRs ρ (cs m) xs.toList ∧ OneAll (cs m) ∧ (cs m).length = m * inf.size := by
    intro hu hsrc
    obtain ⟨du, huu, hdu⟩ := not_int hu
    have hlen : Builtin.lenOf x' = pure m := by
      cases x with
      | slice p len cap =>
        simp only [srcOf, Option.some.injEq, Prod.mk.injEq] at hsrc
        obtain ⟨rfl, _, _⟩ := hsrc
        cases hx <;> rfl
      | str s =>
        simp only [srcOf, Option.some.injEq, Prod.mk.injEq] at hsrc
        obtain ⟨rfl, _, _⟩ := hsrc
        cases hx; rfl
      | _ => simp [srcOf] at hsrc
    refine ⟨fun w xs => (Builtin.firstCells inf.size m x').run E.P w = .ok xs w, ⟨fun hroom hf hst => run_append_in hut huu hdu hi hlen hroom hf hst, fun hroom hbig hfo hf => run_append_out hut huu hdu hi hz hlen hroom hbig hfo hf⟩, fun w hw hok => ?_⟩
    obtain ⟨_, hcells⟩ := src_sound (E := E) hw hx hsrc
    exact hcells m (Nat.le_refl _) hok
  unfold appSrc at hs
  split at hs
  · rename_i hk
    obtain ⟨d, huu, hd⟩ := kind_desc hk
    split at hs
    · rename_i mi
      simp only [Option.some.injEq, Prod.mk.injEq, Bool.and_eq_true, decide_eq_true_eq] at hs
      obtain ⟨⟨h0, hb⟩, rfl, rfl, rfl⟩ := hs
      have hx' := noInt0 hx
      subst hx'
      cases d <;> simp [shapeOf, shapeK] at hd
      subst hd
      refine ⟨fun w xs => xs = Builtin.zeroCells z'.cells mi.toNat, ⟨fun hroom hf hst => ?_, fun hroom hbig hfo hf => ?_⟩, fun w hw hok => ⟨_, rfl, ?_, ?_, ?_⟩⟩
      · subst hf
        exact run_append_in0 hut huu hi hz hpos h0 hb hroom hst
      · subst hf
        exact run_append_out0 hut huu hi hz hpos h0 hb hroom hbig hfo
      · exact zeroRow_rel (hzr ρ) hzl hpos _
      · exact repV_one hzo _
      · show (repV _ z).length = _
        rw [repV_len, hzl]
    · cases hs
  · split at hs
    · rename_i hu
      split at hs
      · rename_i m' ok' cs' hsrc
        simp only [Option.some.injEq, Prod.mk.injEq, true_and] at hs
        obtain ⟨rfl, rfl, rfl⟩ := hs
        exact key hu hsrc
      · cases hs
    · cases hs

/-- Append: in place, or with room of any size. -/
theorem append_sound (h : SR H0 ρ0 w0 ann N ρ lam S a w) {ts : List TypeId} {args : List V} {args' : Array Value} {ty : TypeId} {K : Option (Nat × Nat) → Nat → Nat → Heap → Prop} (ha : VRs ρ args args'.toList)
    (ho : appendOp E ts args S.hp K) : ∃ q n c H' ρ' v w', K q n c H' ∧ (Builtin.append_ ts.toArray ty args').run E.P w = .ok v w' ∧ SR H0 ρ0 w0 ann N ρ' lam { S with hp := H' } a w' ∧ TR ρ' lam (.v (.slice q n c)) v := by
  unfold appendOp at ho
  split at ho
  · rename_i t u p l cp x
    split at ho
    · rename_i el n by' z hel
      split at ho
      · rename_i r0 m ok cs hsrc
        obtain ⟨hr0, ho⟩ := req_elim ho
        obtain ⟨s', r1, hr1, hs', hrest⟩ := ha.of_cons
        obtain ⟨x', r2, hr2, hx', hrest2⟩ := hrest.of_cons
        have hr3 := hrest2.of_nil
        subst hr3
        subst hr2
        obtain rfl : args' = #[s', x'] := by
          apply Array.ext'
          rw [hr1]
        obtain ⟨inf, z', hut, hi, hz, hsz, hby, hzl, hpos, hzs, hzo, hzr⟩ := elem_spec hel
        obtain ⟨A, hA, hcells⟩ := appSrc_sound (ty := ty) hut hi hz hsz hby hzl hpos hzs hzo hzr hx' hsrc hr0
        subst hsz
        subst hby
        have hbase : ∃ base, s' = .slice base l cp ∧ (p = none → base = none) ∧ (∀ id off, p = some (id, off) → (∃ b, ρ id = some b ∧ base = some ⟨b, off, none⟩) ∨ (l = 0 ∧ cp = 0 ∧ ∃ ad, base = some ad)) := by
          cases p with
          | none => exact ⟨none, hs'.slice_none, fun _ => rfl, fun _ _ h => by cases h⟩
          | some q =>
            obtain ⟨id, off⟩ := q
            rcases hs'.slice_eq with ⟨b, hb, he⟩ | ⟨h0, h1, ad, he⟩
            · exact ⟨_, he, fun h => by (cases h), fun id' off' h => by cases h; exact .inl ⟨b, hb, rfl⟩⟩
            · exact ⟨_, by rw [he, h0, h1], fun h => by (cases h), fun id' off' h => .inr ⟨h0, h1, ad, rfl⟩⟩
        obtain ⟨base, rfl, hb0, hb1⟩ := hbase
        rcases br_elim ho with ⟨hroom, ho⟩ | ⟨hroom, ho⟩
        · have hroom : l + m ≤ cp := Nat.le_of_ble_eq_true hroom
          obtain ⟨hr, ho⟩ := req_elim ho
          by_cases hm : m = 0
          · obtain ⟨xs, h1, h2, h3, h4⟩ := hcells w h.hr (.inl hm)
            have hxs : xs = #[] := by
              have := h2.1
              rw [h4, hm] at this
              apply Array.eq_empty_of_size_eq_zero
              simpa using this.symm
            subst hxs
            have hz0 : Nat.beq m 0 = true := by rw [beq_iff]; simp [hm]
            simp only [hz0, cond_true] at ho
            refine ⟨_, _, _, _, ρ, .slice base (l + m) cp, w, ho, hA.inn hroom h1 ?_, h, .v ?_⟩
            · cases base <;> simp [storeCells_nil]
            · rw [hm]; simpa using hs'
          · have hz0 : Nat.beq m 0 = false := by rw [beq_iff]; simp [hm]
            simp only [hz0, Bool.false_or, Bool.and_eq_true, cond_false] at hr ho
            obtain ⟨hp, hok, hwr⟩ := hr
            cases p with
            | none => cases hp
            | some q =>
              obtain ⟨id, off⟩ := q
              simp only [Option.getD_some] at hwr ho
              rcases hb1 id off rfl with ⟨b, hb, rfl⟩ | ⟨h0, h1, _⟩
              · obtain ⟨xs, h1, h2, h3, h4⟩ := hcells w h.hr (.inr hok)
                unfold Heap.wr at hwr
                split at hwr
                · rename_i e ccs ro hg
                  rw [Bool.and_eq_true] at hwr
                  have hro : ro = false := by simpa using hwr.1
                  subst hro
                  obtain ⟨b', hb', hc⟩ := h.hr.obj id _ hg
                  rw [hb] at hb'
                  cases hb'
                  obtain ⟨w', g1, g2, g3⟩ := cells_store (E := E) (off := off + l * inf.size) hc h2 h3 (by rw [h4]; exact Nat.le_of_ble_eq_true hwr.2)
                  have hst : S.hp.store id (off + l * inf.size) (cs m) = S.hp.put id (.cells e (setMany ccs (off + l * inf.size) (cs m)) false) := by simp [Heap.store, hg]
                  rw [hst] at ho
                  exact ⟨_, _, _, _, ρ, _, w', ho, hA.inn hroom h1 (by simpa [add_addr] using g1), h.putH hg rfl rfl hb g3 g2, .v (.slice _ _ hb)⟩
                · cases hwr
              · omega
        · have hroom' : ¬ l + m ≤ cp := by
            intro hc
            rw [Nat.ble_eq_true_of_le hc] at hroom
            cases hroom
          obtain ⟨hr, ho⟩ := req_elim ho
          simp only [Bool.and_eq_true] at hr
          obtain ⟨hrow, hok, hbig⟩ := hr
          have hbig := Nat.le_of_ble_eq_true hbig
          have hd : HR ρ S.hp w.drew := ⟨h.hr.obj, h.hr.inj, h.hr.lt, h.hr.gl⟩
          obtain ⟨_, hold⟩ := src_sound (E := E) hd hs' (n := inf.size) (m := l) (ok := fun m => rowOk S.hp inf.size p m)
            (cs := fun m => bif Nat.beq m 0 then [] else S.hp.sub (p.getD (0, 0)).1 (p.getD (0, 0)).2 (m * inf.size)) rfl
          obtain ⟨xs, h1, h2, h3, h4⟩ := hcells w.drew hd (.inr hok)
          obtain ⟨os, k1, k2, k3, k4⟩ := hold l (Nat.le_refl _) (.inr hrow)
          have hneed : l + m ≤ 70368744177664 := Nat.le_trans (Nat.le_mul_of_pos_right _ (by omega)) hbig
          have hcap1 := grownCap_ge w (l + m) cp el
          have hcap2 := grownCap_le_maxLen w (l + m) cp el (by simp only [maxLen]; omega)
          have hk := ho (grownCap w (l + m) cp el) hcap1 (by simp only [maxLen] at hcap2; omega)
          have hrel := (k2.append h2).append (zeroRow_rel (hzr ρ) hzl hpos (grownCap w (l + m) cp el - (l + m)))
          refine ⟨_, _, _, _, _, _, _, hk, hA.out hroom' hbig k1 h1, h.newH ⟨rfl, rfl, rfl, rfl⟩ (cells_new ?_ ?_), .v (.slice _ _ (by rw [updR, if_pos rfl]))⟩
          · simpa [catV, rowV, List.append_assoc] using hrel
          · exact k3.append (h3.append (repV_one hzo _))
      · exact ho.elim
    · exact ho.elim
  · exact ho.elim

theorem noInt {x : Value} {k : IntKind} {n : Int} (h : VR ρ (.int k n) x) : x = .int k n := h.int_eq

/-- Make a slice. -/
theorem run_makeSlice {t el by' : Nat} {n : Nat} {z : List V} {inf : TypeInfo} {z' : Value} (hut : E.P.underlying t = some (.slice el)) (hi : E.P.info? el = some inf) (hz : inf.zero = some z')
    (hzs : z'.cells.size = inf.size) (hpos : 0 < inf.size) {k k' : IntKind} {l c : Int} (h0 : 0 ≤ l) (h1 : l ≤ c) (h2 : c * (inf.bytes + 1) ≤ 70368744177664) :
    (Instr.makeSlice t (.int k l) (.int k' c)).run E.P w = .ok (.slice (some ⟨w.heap.size, 0, none⟩) l.toNat c.toNat)
      (w.alloc (.cells (Builtin.zeroCells z'.cells c.toNat) el)) := by
  have hc : 0 ≤ c := by omega
  have hm1 : c * 1 ≤ c * (inf.bytes + 1) := Int.mul_le_mul_of_nonneg_left (by omega) hc
  have hm2 : c * inf.bytes ≤ c * (inf.bytes + 1) := Int.mul_le_mul_of_nonneg_left (by omega) hc
  have hw1 : IntKind.i64.wrap l = l := IntWalk.i64_in _ ⟨by omega, by omega⟩
  have hw2 : IntKind.i64.wrap c = c := IntWalk.i64_in _ ⟨by omega, by omega⟩
  have e1 : ¬ (281474976710656 < (inf.bytes : Int) * c) := by rw [Int.mul_comm]; omega
  have e2 : ¬ c < 0 := by omega
  have e3 : ¬ l < 0 := by omega
  have e4 : ¬ c < l := by omega
  have hroom : ¬ roomBytes < c.toNat * inf.bytes := by
    have : ((c.toNat * inf.bytes : Nat) : Int) = c * inf.bytes := by rw [Int.natCast_mul, Int.toNat_of_nonneg hc]
    unfold roomBytes
    omega
  have hz0 : z'.cells.size ≠ 0 := by omega
  by_cases hn : c.toNat * inf.size = 0
  · have hcn : c.toNat = 0 := by
      rcases Nat.mul_eq_zero.1 hn with h | h
      · exact h
      · omega
    simp [Instr.makeSlice, run_underlying hut, typeInfo, sizeOf, hi, hw1, hw2, e1, e2, e3, e4, askRoom, hroom, hn, hcn, newRow, Builtin.zeroCells, asInt, asIntOf, hzs]
    have hr : Array.range 0 = #[] := by simp
    rw [hr, Array.map_empty, Array.map_empty]
  · simp [Instr.makeSlice, run_underlying hut, typeInfo, sizeOf, zeroValue, hi, hz, hw1, hw2, e1, e2, e3, e4, askRoom, hroom, hn, newRow, Builtin.zeroCells, asInt, asIntOf, hzs]

/-- A row's end is marked. -/
theorem mark_sound {e : TypeId} {cs : List V} {off b : Nat} (hc : CellsR ρ e cs true w.heap[b]?) :
    ∃ w', (markStringish ⟨b, off, none⟩).run E.P w = .ok () w' ∧ CellsR ρ e cs true w'.heap[b]? ∧ Only b w w' := by
  obtain ⟨cs', fz, hb, hvs, hone, hfz⟩ := hc
  have hsh : w.shape? b = some (e, cs'.size) := by simp [World.shape?, hb]
  refine ⟨w.freeze ⟨b, cs'.size, none⟩ 1, by simp [markStringish, shape, freeze, Sem.run, hsh], ?_, ?_⟩
  · refine ⟨cs', if fz.1 == fz.2 then (cs'.size, cs'.size + 1) else (min fz.1 cs'.size, max fz.2 (cs'.size + 1)), ?_, hvs, hone, fun _ => .inr ?_⟩
    · simp [World.freeze, Array.getElem?_modify, hb]
    · have := hfz rfl
      split
      · simp
      · rename_i hne
        have hne : fz.1 ≠ fz.2 := by simpa using hne
        simp only [Nat.le_min]
        omega
  · refine ⟨fun b' hb' => ?_, by simp [World.freeze], rfl, rfl, rfl⟩
    simp only [World.freeze, Array.getElem?_modify]
    rw [if_neg (by decide)]
    simp only [Array.getElem?_modify]
    rw [if_neg (fun e => hb' e.symm)]

theorem put_same {H : Heap} {id : Nat} {o : Obj} (h : H.get id = some o) : H.put id o = H := by
  unfold Heap.put
  congr 1
  funext j
  rw [beq_iff]
  by_cases hj : j = id
  · subst hj; simp [h]
  · simp [hj]

/-- The block of a slice that may be written. -/
theorem wr_spec {H : Heap} (hr : HR ρ H w) {id off n : Nat} (h : H.wr id off n = true) : ∃ e cs b, H.get id = some (.cells e cs false) ∧ off + n ≤ cs.length ∧ ρ id = some b ∧ CellsR ρ e cs true w.heap[b]? := by
  unfold Heap.wr at h
  split at h
  · rename_i e cs ro hg
    rw [Bool.and_eq_true] at h
    have hro : ro = false := by simpa using h.1
    subst hro
    obtain ⟨b, h1, h2⟩ := hr.obj id _ hg
    exact ⟨e, cs, b, hg, Nat.le_of_ble_eq_true h.2, h1, h2⟩
  · cases h

end
end Go.Am
