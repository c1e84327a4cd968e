/- Rows of the heap: what they read, who owns them, what stays; append. -/
import Derived.Test.YtibkggbidojocaaDoorAmUse
namespace Go.Am
set_option linter.unusedSimpArgs false
set_option linter.unusedVariables false
set_option linter.unusedSectionVars false

/-- The heap has no block beyond its end. -/
def Heap.ok (H : Heap) : Prop := ∀ id o, H.get id = some o → id < H.next

theorem Heap.get_alloc (H : Heap) (o : Obj) : (H.alloc o).get H.next = some o := by simp [Heap.alloc]
theorem Heap.get_alloc_ne {H : Heap} {o : Obj} {id : Nat} (h : id ≠ H.next) : (H.alloc o).get id = H.get id := by simp [Heap.alloc, h]
theorem Heap.get_put (H : Heap) (id : Nat) (o : Obj) : (H.put id o).get id = some o := by simp [Heap.put]
theorem Heap.get_put_ne {H : Heap} {id j : Nat} {o : Obj} (h : j ≠ id) : (H.put id o).get j = H.get j := by simp [Heap.put, h]
theorem Heap.next_alloc (H : Heap) (o : Obj) : (H.alloc o).next = H.next + 1 := rfl
theorem Heap.next_put (H : Heap) (id : Nat) (o : Obj) : (H.put id o).next = H.next := rfl

theorem Heap.store_eq {H : Heap} {id off : Nat} {vs : List V} {e : TypeId} {l : List V} {ro : Bool} (h : H.get id = some (.cells e l ro)) :
    H.store id off vs = H.put id (.cells e (setMany l off vs) ro) := by simp [Heap.store, h]

theorem Heap.ok.alloc {H : Heap} (h : H.ok) (o : Obj) : (H.alloc o).ok := by
  intro id o' hg
  rw [Heap.next_alloc]
  by_cases he : id = H.next
  · omega
  · rw [Heap.get_alloc_ne he] at hg
    have := h id o' hg
    omega

theorem Heap.ok.put {H : Heap} (h : H.ok) {id : Nat} {o o' : Obj} (hg : H.get id = some o) : (H.put id o').ok := by
  intro j o2 hj
  rw [Heap.next_put]
  by_cases he : j = id
  · subst he; exact h _ _ hg
  · rw [Heap.get_put_ne he] at hj; exact h _ _ hj

/-- What a place reads. -/
def Rd (H : Heap) (q : Option (Nat × Nat)) (cs : List V) : Prop :=
  cs = [] ∨ ∃ id off e l ro, q = some (id, off) ∧ H.get id = some (.cells e l ro) ∧ (l.drop off).take cs.length = cs

theorem Rd.nil (H : Heap) (q : Option (Nat × Nat)) : Rd H q [] := .inl rfl

theorem take_len {l cs : List V} {off : Nat} (h : (l.drop off).take cs.length = cs) (h0 : cs ≠ []) : off + cs.length ≤ l.length := by
  have := congrArg List.length h
  simp at this
  have : 0 < cs.length := List.length_pos_iff.2 h0
  omega

theorem take_sub {l cs : List V} {off i k : Nat} (h : (l.drop off).take cs.length = cs) (hi : i + k ≤ cs.length) : (l.drop (off + i)).take k = (cs.drop i).take k := by
  rw [← h]
  rw [List.drop_take, List.take_take, List.drop_drop]
  congr 1
  omega

section
variable {H : Heap} {q : Option (Nat × Nat)} {cs : List V}

theorem Rd.some (h : Rd H q cs) (h0 : cs ≠ []) : q.isSome = true := by
  rcases h with h | ⟨id, off, e, l, ro, rfl, _⟩
  · exact absurd h h0
  · rfl

theorem Rd.inb (h : Rd H q cs) {i k : Nat} (hi : i + k ≤ cs.length) (h0 : cs ≠ []) : H.inb (q.getD (0, 0)).1 ((q.getD (0, 0)).2 + i) k = true := by
  rcases h with h | ⟨id, off, e, l, ro, rfl, hg, ht⟩
  · exact absurd h h0
  · have := take_len ht h0
    simp [Heap.inb, hg]
    omega

theorem Rd.sub (h : Rd H q cs) {i k : Nat} (hi : i + k ≤ cs.length) (h0 : cs ≠ []) : H.sub (q.getD (0, 0)).1 ((q.getD (0, 0)).2 + i) k = (cs.drop i).take k := by
  rcases h with h | ⟨id, off, e, l, ro, rfl, hg, ht⟩
  · exact absurd h h0
  · simp only [Heap.sub, Heap.cs, Option.getD_some, hg]
    exact take_sub ht hi

theorem nthV_getD : ∀ (l : List V) (i : Nat), nthV l i = l.getD i .none
  | [], i => by simp [nthV]
  | x :: l, 0 => rfl
  | x :: l, i + 1 => by rw [nthV, nthV_getD l i]; simp

theorem Rd.cell (h : Rd H q cs) {i : Nat} (hi : i < cs.length) : H.cell (q.getD (0, 0)).1 ((q.getD (0, 0)).2 + i) = nthV cs i := by
  rcases h with h | ⟨id, off, e, l, ro, rfl, hg, ht⟩
  · rw [h] at hi; cases hi
  · simp only [Heap.cell, Heap.cs, Option.getD_some, hg, nthV_getD]
    have := congrArg (fun m => m.getD i V.none) ht
    simp only [List.getD_eq_getElem?_getD, List.getElem?_take, List.getElem?_drop, if_pos hi] at this ⊢
    exact this

theorem Rd.inb0 (h : Rd H q cs) {k : Nat} (hi : k ≤ cs.length) (h0 : cs ≠ []) : H.inb (q.getD (0, 0)).1 (q.getD (0, 0)).2 k = true := by
  simpa using h.inb (i := 0) (k := k) (by omega) h0

theorem Rd.sub0 (h : Rd H q cs) {k : Nat} (hi : k ≤ cs.length) (h0 : cs ≠ []) : H.sub (q.getD (0, 0)).1 (q.getD (0, 0)).2 k = cs.take k := by
  simpa using h.sub (i := 0) (k := k) (by omega) h0

theorem Rd.all (h : Rd H q cs) (h0 : cs ≠ []) : H.sub (q.getD (0, 0)).1 (q.getD (0, 0)).2 cs.length = cs := by
  rw [h.sub0 (Nat.le_refl _) h0, List.take_length]

/-- A part of it. -/
theorem Rd.part (h : Rd H q cs) {id off : Nat} (hq : q = Option.some (id, off)) (i k : Nat) (hi : i + k ≤ cs.length) : Rd H (Option.some (id, off + i)) ((cs.drop i).take k) := by
  by_cases h0 : (cs.drop i).take k = []
  · exact .inl h0
  · rcases h with h | ⟨id', off', e, l, ro, he, hg, ht⟩
    · rw [h] at h0; simp at h0
    · rw [hq] at he
      cases he
      refine .inr ⟨id, off + i, e, l, ro, rfl, hg, ?_⟩
      have hl : ((cs.drop i).take k).length = k := by simp; omega
      rw [hl]
      exact take_sub ht hi

/-- What has not been written. -/
structure Fr (H H' : Heap) (W : Nat → Prop) : Prop where
  next : H.next ≤ H'.next
  same : ∀ id, id < H.next → ¬ W id → H'.get id = H.get id

theorem Fr.refl (H : Heap) (W : Nat → Prop) : Fr H H W := ⟨Nat.le_refl _, fun _ _ _ => rfl⟩

theorem Fr.trans {H1 H2 H3 : Heap} {W W' : Nat → Prop} (h : Fr H1 H2 W) (k : Fr H2 H3 W') : Fr H1 H3 (fun id => W id ∨ W' id) :=
  ⟨Nat.le_trans h.next k.next, fun id hid hw => by
    rw [k.same id (Nat.lt_of_lt_of_le hid h.next) (fun hc => hw (.inr hc)), h.same id hid (fun hc => hw (.inl hc))]⟩

theorem Fr.mono {H1 H2 : Heap} {W W' : Nat → Prop} (h : Fr H1 H2 W) (hw : ∀ id, id < H1.next → W id → W' id) : Fr H1 H2 W' :=
  ⟨h.next, fun id hid hn => h.same id hid (fun hc => hn (hw id hid hc))⟩

theorem Fr.alloc (H : Heap) (o : Obj) (W : Nat → Prop) : Fr H (H.alloc o) W :=
  ⟨Nat.le_succ _, fun id hid _ => Heap.get_alloc_ne (by omega)⟩

theorem Fr.put (H : Heap) (id : Nat) (o : Obj) : Fr H (H.put id o) (fun j => j = id) :=
  ⟨Nat.le_refl _, fun j _ hj => Heap.get_put_ne hj⟩

theorem Fr.get {H H' : Heap} {W : Nat → Prop} (h : Fr H H' W) {id : Nat} {o : Obj} (hok : H.ok) (hg : H.get id = Option.some o) (hw : ¬ W id) : H'.get id = Option.some o := by
  rw [h.same id (hok id o hg) hw, hg]

/-- Has a place another block than those? -/
def Apart (q : Option (Nat × Nat)) (W : Nat → Prop) : Prop := ∀ id off, q = Option.some (id, off) → ¬ W id

theorem Rd.fr {H' : Heap} {W : Nat → Prop} (h : Rd H q cs) (hok : H.ok) (hf : Fr H H' W) (ha : Apart q W) : Rd H' q cs := by
  rcases h with h | ⟨id, off, e, l, ro, rfl, hg, ht⟩
  · exact .inl h
  · exact .inr ⟨id, off, e, l, ro, rfl, hf.get hok hg (ha id off rfl), ht⟩

/-- A row that may be written, and behind which there is room. -/
structure Own (H : Heap) (el n : Nat) (q : Option (Nat × Nat)) (len cap : Nat) (cs : List V) : Prop where
  size : cs.length = len * n
  one : OneAll cs
  le : len ≤ cap
  mem : (q = none ∧ cap = 0) ∨ ∃ id off l, q = Option.some (id, off) ∧ H.get id = Option.some (.cells el l false) ∧ off + cap * n ≤ l.length ∧ (l.drop off).take cs.length = cs

theorem Own.nil (H : Heap) (el n : Nat) : Own H el n none 0 0 [] := ⟨by simp, fun v hv => by simp at hv, Nat.le_refl _, .inl ⟨rfl, rfl⟩⟩

theorem Own.rd {el n len cap : Nat} (h : Own H el n q len cap cs) : Rd H q cs := by
  rcases h.mem with ⟨rfl, hc⟩ | ⟨id, off, l, rfl, hg, _, ht⟩
  · left
    have := h.le
    have h1 : len = 0 := by omega
    have := h.size
    rw [h1, Nat.zero_mul] at this
    exact List.length_eq_zero_iff.1 this
  · exact .inr ⟨id, off, el, l, false, rfl, hg, ht⟩

theorem Own.fr {H' : Heap} {W : Nat → Prop} {el n len cap : Nat} (h : Own H el n q len cap cs) (hok : H.ok) (hf : Fr H H' W) (ha : Apart q W) : Own H' el n q len cap cs := by
  refine ⟨h.size, h.one, h.le, ?_⟩
  rcases h.mem with hn | ⟨id, off, l, rfl, hg, h1, ht⟩
  · exact .inl hn
  · exact .inr ⟨id, off, l, rfl, hf.get hok hg (ha id off rfl), h1, ht⟩

theorem setV_eq : ∀ (l : List V) (j n : Nat) (v : V), setV l j n v = l.mapIdx fun i x => if j + i = n then v else x
  | [], _, _, _ => rfl
  | x :: l, j, n, v => by
    rw [setV, setV_eq l (j + 1) n v, List.mapIdx_cons, condV_eq, beq_iff]
    congr 1
    · by_cases h : j = n <;> simp [h]
    · congr 1
      funext i x
      have : j + 1 + i = j + (i + 1) := by omega
      rw [this]

theorem setV_set (l : List V) (n : Nat) (v : V) : setV l 0 n v = l.set n v := by
  rw [setV_eq]
  apply List.ext_getElem?
  intro i
  simp only [List.getElem?_mapIdx, List.getElem?_set, Nat.zero_add]
  by_cases h : n = i
  · subst h
    by_cases hl : n < l.length
    · simp [hl]
    · simp [hl]
  · have : ¬ i = n := fun e => h e.symm
    simp [h, this]

theorem setMany_eq : ∀ (vs l : List V) (off : Nat), off + vs.length ≤ l.length → setMany l off vs = l.take off ++ (vs ++ l.drop (off + vs.length))
  | [], l, off, h => by simp [setMany]
  | v :: vs, l, off, h => by
    simp only [List.length_cons] at h
    rw [setMany, setV_set, setMany_eq vs _ (off + 1) (by simp; omega)]
    apply List.ext_getElem?
    intro i
    simp only [List.getElem?_append, List.getElem?_take, List.getElem?_drop, List.getElem?_set, List.length_take, List.length_set, List.length_cons, List.cons_append, List.getElem?_cons]
    grind

theorem row_app {l cs src : List V} {off : Nat} (ht : (l.drop off).take cs.length = cs) (hl : off + cs.length + src.length ≤ l.length) :
    ((setMany l (off + cs.length) src).drop off).take (cs ++ src).length = cs ++ src := by
  rw [setMany_eq _ _ _ hl]
  have e : l.take (off + cs.length) = l.take off ++ cs := by rw [List.take_add, ht]
  rw [e, List.append_assoc, List.drop_left' (by simp; omega), ← List.append_assoc, List.take_left' rfl]

theorem setMany_length : ∀ (vs l : List V) (off : Nat), (setMany l off vs).length = l.length
  | [], l, off => rfl
  | v :: vs, l, off => by rw [setMany, setMany_length vs, setV_set, List.length_set]

theorem allOne_of {l : List V} (h : OneAll l) : allOne l = true := allOne_iff.2 h

theorem OneAll.take {l : List V} (h : OneAll l) (k : Nat) : OneAll (l.take k) := fun v hv => h v (List.mem_of_mem_take hv)
theorem OneAll.drop {l : List V} (h : OneAll l) (k : Nat) : OneAll (l.drop k) := fun v hv => h v (List.mem_of_mem_drop hv)

/-- The elements that are laid behind. -/
def Src (H : Heap) (n : Nat) (x : V) (m : Nat) (src : List V) : Prop :=
  src.length = m * n ∧ OneAll src ∧ ((∃ q c, x = .slice q m c ∧ Rd H q src) ∨ ∃ s, x = .str s ∧ m = s.size ∧ n = 1 ∧ src = strCells s)

theorem src_spec {n m : Nat} {x : V} {src : List V} (h : Src H n x m src) (hn : 0 < n) : ∃ ok cf, srcOf H n x = Option.some (m, ok, cf) ∧ ok m = true ∧ cf m = src := by
  obtain ⟨hl, h1, ⟨q, c, rfl, hr⟩ | ⟨s, rfl, rfl, rfl, rfl⟩⟩ := h
  · refine ⟨_, _, rfl, ?_, ?_⟩
    · by_cases h0 : m = 0
      · subst h0; rfl
      · have hne : src ≠ [] := by
          intro e; rw [e] at hl
          have := Nat.mul_pos (Nat.pos_of_ne_zero h0) hn
          simp at hl; omega
        simp only [rowOk, Bool.or_eq_true, Bool.and_eq_true]
        exact .inr ⟨hr.some hne, hr.inb0 (by omega) hne, allOne_of (by rw [← hl, hr.all hne]; exact h1)⟩
    · by_cases h0 : m = 0
      · subst h0
        simp at hl
        subst hl
        rfl
      · have hz : Nat.beq m 0 = false := by simp [h0]
        have hne : src ≠ [] := by
          intro e; rw [e] at hl
          have := Nat.mul_pos (Nat.pos_of_ne_zero h0) hn
          simp at hl; omega
        simp only [hz, cond_false]
        rw [← hl, hr.all hne]
  · refine ⟨_, _, rfl, rfl, ?_⟩
    exact List.take_of_length_le (by rw [hl]; omega)

end
end Go.Am
