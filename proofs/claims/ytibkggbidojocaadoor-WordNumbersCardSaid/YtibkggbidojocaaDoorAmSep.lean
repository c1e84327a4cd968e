/- Memory in pieces: what is owned, one piece beside the others; what came in, which stays. -/
import Derived.Test.YtibkggbidojocaaDoorAmRows
namespace Go.Am
set_option linter.unusedSimpArgs false
set_option linter.unusedVariables false
set_option linter.unusedSectionVars false

/-- A piece of memory. -/
abbrev Hp := Nat → Option Obj
abbrev Ast := Hp → Prop

def blk (id : Nat) (e : TypeId) (cs : List V) : Ast := fun h => h = fun j => if j = id then some (.cells e cs false) else none

/-- Two pieces make a third. -/
def Join (h1 h2 h : Hp) : Prop := ∀ i, (h1 i = none ∧ h i = h2 i) ∨ (h2 i = none ∧ h i = h1 i)

/-- One beside the other. -/
def seps : List Ast → Ast
  | [] => fun h => h = fun _ => none
  | A :: L => fun h => ∃ h1 h2, Join h1 h2 h ∧ A h1 ∧ seps L h2

def star (A B : Ast) : Ast := fun h => ∃ h1 h2, Join h1 h2 h ∧ A h1 ∧ B h2
def emp : Ast := fun h => h = fun _ => none
def lft (p : Prop) : Ast := fun h => p ∧ h = fun _ => none
def exA {α : Type} (A : α → Ast) : Ast := fun h => ∃ x, A x h

theorem Join.symm {a b c : Hp} (h : Join a b c) : Join b a c := fun i => (h i).symm

theorem Join.empty (a : Hp) : Join (fun _ => none) a a := fun i => .inl ⟨rfl, rfl⟩

theorem Join.eq_of_empty {a b : Hp} (h : Join (fun _ => none) a b) : b = a := by
  funext i
  rcases h i with ⟨_, h⟩ | ⟨h1, h2⟩
  · exact h
  · rw [h1, h2]

/-- a + (b + c) = b + (a + c). -/
theorem Join.swap {a b c bc abc : Hp} (h1 : Join b c bc) (h2 : Join a bc abc) : ∃ ac, Join a c ac ∧ Join b ac abc := by
  refine ⟨fun i => match a i with | some o => some o | none => c i, fun i => ?_, fun i => ?_⟩
  · rcases h1 i with ⟨e1, e2⟩ | ⟨e1, e2⟩ <;> rcases h2 i with ⟨e3, e4⟩ | ⟨e3, e4⟩
    · simp [e3]
    · rw [e2] at e3
      right
      refine ⟨e3, ?_⟩
      cases h : a i <;> simp [e3, h]
    · simp [e3, e1]
    · right
      refine ⟨e1, ?_⟩
      cases h : a i <;> simp [e1, h]
  · rcases h1 i with ⟨e1, e2⟩ | ⟨e1, e2⟩ <;> rcases h2 i with ⟨e3, e4⟩ | ⟨e3, e4⟩
    · left; simp [e1, e3, e4, e2]
    · left
      refine ⟨e1, ?_⟩
      rw [e2] at e3
      cases h : a i <;> simp [e3, e4, h]
    · right; simp [e1, e3, e4, e2]
    · left
      rw [e2] at e3
      refine ⟨e3, ?_⟩
      cases h : a i <;> simp [e1, e4, h]

theorem Join.sub1 {a b c : Hp} (h : Join a b c) {i : Nat} {o : Obj} (ha : a i = some o) : c i = some o := by
  rcases h i with ⟨e, _⟩ | ⟨_, e⟩
  · rw [ha] at e; cases e
  · rw [e, ha]

theorem Join.sub2 {a b c : Hp} (h : Join a b c) {i : Nat} {o : Obj} (hb : b i = some o) : c i = some o := h.symm.sub1 hb

theorem seps_swap {A B : Ast} {L : List Ast} {h : Hp} (hs : seps (A :: B :: L) h) : seps (B :: A :: L) h := by
  obtain ⟨h1, h2, j1, a, h3, h4, j2, b, l⟩ := hs
  obtain ⟨ac, k1, k2⟩ := Join.swap j2 j1
  exact ⟨h3, ac, k2, b, h1, h4, k1, a, l⟩

theorem seps_mono {A : Ast} {L L' : List Ast} (hl : ∀ h, seps L h → seps L' h) {h : Hp} (hs : seps (A :: L) h) : seps (A :: L') h := by
  obtain ⟨h1, h2, j1, a, l⟩ := hs
  exact ⟨h1, h2, j1, a, hl _ l⟩

theorem seps_perm {L L' : List Ast} (hp : L.Perm L') : ∀ h, seps L h → seps L' h := by
  induction hp with
  | nil => exact fun h => id
  | cons x _ ih => exact fun h => seps_mono ih
  | swap x y l => exact fun h => seps_swap
  | trans _ _ ih1 ih2 => exact fun h hs => ih2 h (ih1 h hs)

/-- The n-th. -/
def nthA : List Ast → Nat → Ast
  | [], _ => emp
  | A :: _, 0 => A
  | _ :: L, n + 1 => nthA L n

/-- Without the n-th. -/
def outA : List Ast → Nat → List Ast
  | [], _ => []
  | _ :: L, 0 => L
  | A :: L, n + 1 => A :: outA L n

theorem outA_perm : ∀ {L : List Ast} {n : Nat}, n < L.length → L.Perm (nthA L n :: outA L n)
  | A :: L, 0, _ => .refl _
  | A :: L, n + 1, h => ((outA_perm (Nat.lt_of_succ_lt_succ h)).cons A).trans (.swap ..)

/-- What is in memory: what came in, which may only be read; what is owned, in pieces. -/
structure Sat (B H : Heap) (L : List Ast) : Prop where
  ok : H.ok
  low : B.next ≤ H.next
  ro : ∀ id o, B.get id = some o → H.get id = some o ∧ ∃ e cs, o = .cells e cs true
  ex : ∃ h, (∀ id o, h id = some o → H.get id = some o) ∧ seps L h

variable {B H : Heap} {L L' : List Ast} {A A' : Ast}

theorem Sat.perm (h : Sat B H L) (hp : L.Perm L') : Sat B H L' :=
  ⟨h.ok, h.low, h.ro, let ⟨g, h1, h2⟩ := h.ex; ⟨g, h1, seps_perm hp _ h2⟩⟩

/-- The n-th piece to the front. -/
theorem Sat.up (h : Sat B H L) (n : Nat) (hn : Nat.blt n L.length = true := by rfl) : Sat B H (nthA L n :: outA L n) :=
  h.perm (outA_perm (Nat.le_of_ble_eq_true hn))

/-- The first piece to the n-th place. -/
theorem Sat.swap (h : Sat B H (A :: A' :: L)) : Sat B H (A' :: A :: L) := h.perm (.swap ..)

theorem Sat.imp (h : Sat B H (A :: L)) (hi : ∀ g, A g → A' g) : Sat B H (A' :: L) :=
  ⟨h.ok, h.low, h.ro, let ⟨g, h1, h2, h3, h4, h5, h6⟩ := h.ex; ⟨g, h1, h2, h3, h4, hi _ h5, h6⟩⟩

/-- A piece is forgotten. -/
theorem Sat.drop (h : Sat B H (A :: L)) : Sat B H L :=
  ⟨h.ok, h.low, h.ro, let ⟨g, h1, h2, h3, h4, h5, h6⟩ := h.ex; ⟨h3, fun id o ho => h1 id o (h4.sub2 ho), h6⟩⟩

theorem Sat.lft {p : Prop} (h : Sat B H (lft p :: L)) : p ∧ Sat B H L :=
  let ⟨g, h1, h2, h3, h4, ⟨h5, h7⟩, h6⟩ := h.ex
  ⟨h5, h.drop⟩

theorem Sat.pure {p : Prop} (h : Sat B H L) (hp : p) : Sat B H (Am.lft p :: L) :=
  ⟨h.ok, h.low, h.ro, let ⟨g, h1, h2⟩ := h.ex; ⟨g, h1, _, g, Join.empty g, ⟨hp, rfl⟩, h2⟩⟩

theorem Sat.ex1 {α : Type} {A : α → Ast} (h : Sat B H (exA A :: L)) : ∃ x, Sat B H (A x :: L) :=
  let ⟨g, h1, h2, h3, h4, ⟨x, h5⟩, h6⟩ := h.ex
  ⟨x, h.ok, h.low, h.ro, g, h1, h2, h3, h4, h5, h6⟩

theorem Sat.intro {α : Type} {A : α → Ast} {x : α} (h : Sat B H (A x :: L)) : Sat B H (exA A :: L) := h.imp fun g hg => ⟨x, hg⟩

theorem Sat.star (h : Sat B H (star A A' :: L)) : Sat B H (A :: A' :: L) := by
  obtain ⟨g, h1, h2, h3, h4, ⟨h5, h6, h7, h8, h9⟩, h10⟩ := h.ex
  obtain ⟨ac, k1, k2⟩ := Join.swap h7 (h4.symm)
  exact ⟨h.ok, h.low, h.ro, g, h1, h5, ac, k2, h8, h6, h3, k1.symm, h9, h10⟩

theorem Sat.unstar (h : Sat B H (A :: A' :: L)) : Sat B H (Am.star A A' :: L) := by
  obtain ⟨g, h1, h5, ac, k2, h8, h6, h3, k1, h9, h10⟩ := h.ex
  obtain ⟨x, k3, k4⟩ := Join.swap k1.symm k2
  exact ⟨h.ok, h.low, h.ro, g, h1, x, h3, k4.symm, ⟨h5, h6, k3, h8, h9⟩, h10⟩

theorem Sat.emp (h : Sat B H (emp :: L)) : Sat B H L := h.drop
theorem Sat.unemp (h : Sat B H L) : Sat B H (Am.emp :: L) :=
  ⟨h.ok, h.low, h.ro, let ⟨g, h1, h2⟩ := h.ex; ⟨g, h1, _, g, Join.empty g, rfl, h2⟩⟩

theorem Sat.get {id : Nat} {e : TypeId} {cs : List V} (h : Sat B H (blk id e cs :: L)) : H.get id = some (.cells e cs false) := by
  obtain ⟨g, h1, h2, h3, h4, h5, h6⟩ := h.ex
  exact h1 _ _ (h4.sub1 (by rw [h5]; simp))

theorem Sat.start (hB : B.ok) (hro : ∀ id o, B.get id = some o → ∃ e cs, o = .cells e cs true) : Sat B B [] :=
  ⟨hB, Nat.le_refl _, fun id o h => ⟨h, hro id o h⟩, fun _ => none, (fun id o h => by cases h), rfl⟩

theorem Sat.alloc (h : Sat B H L) (e : TypeId) (cs : List V) : Sat B (H.alloc (.cells e cs false)) (blk H.next e cs :: L) := by
  obtain ⟨g, h1, h2⟩ := h.ex
  refine ⟨h.ok.alloc _, Nat.le_succ_of_le h.low, fun id o ho => ?_, fun j => if j = H.next then some (.cells e cs false) else g j, fun id o ho => ?_, _, g, fun i => ?_, rfl, h2⟩
  · have := h.ok id o (h.ro id o ho).1
    exact ⟨by rw [Heap.get_alloc_ne (by omega)]; exact (h.ro id o ho).1, (h.ro id o ho).2⟩
  · by_cases hid : id = H.next
    · subst hid
      simp only [if_pos] at ho
      rw [Heap.get_alloc, ho]
    · simp only [if_neg hid] at ho
      rw [Heap.get_alloc_ne hid]
      exact h1 id o ho
  · by_cases hid : i = H.next
    · subst hid
      right
      refine ⟨?_, by simp⟩
      cases hg : g H.next with
      | none => rfl
      | some o => have := h.ok _ _ (h1 _ _ hg); omega
    · left
      simp [hid]

theorem Sat.put {id : Nat} {e : TypeId} {cs cs' : List V} (h : Sat B H (blk id e cs :: L)) : Sat B (H.put id (.cells e cs' false)) (blk id e cs' :: L) := by
  have hg0 := h.get
  obtain ⟨g, h1, h2, h3, h4, h5, h6⟩ := h.ex
  subst h5
  refine ⟨h.ok.put hg0, h.low, fun j o ho => ?_, fun j => if j = id then some (.cells e cs' false) else h3 j, fun j o ho => ?_, _, h3, fun i => ?_, rfl, h6⟩
  · have hj := h.ro j o ho
    refine ⟨?_, hj.2⟩
    by_cases he : j = id
    · subst he
      obtain ⟨e', c', rfl⟩ := hj.2
      rw [hj.1] at hg0
      cases hg0
    · rw [Heap.get_put_ne he]; exact hj.1
  · by_cases hid : j = id
    · subst hid
      simp only [if_pos] at ho
      rw [Heap.get_put, ho]
    · simp only [if_neg hid] at ho
      rw [Heap.get_put_ne hid]
      exact h1 j o (h4.sub2 ho)
  · by_cases hid : i = id
    · subst hid
      right
      refine ⟨?_, by simp⟩
      rcases h4 i with ⟨e1, _⟩ | ⟨e1, _⟩
      · simp at e1
      · exact e1
    · left
      simp [hid]

theorem Sat.store {id off : Nat} {e : TypeId} {cs vs : List V} (h : Sat B H (blk id e cs :: L)) : Sat B (H.store id off vs) (blk id e (setMany cs off vs) :: L) := by
  rw [Heap.store_eq h.get]
  exact h.put

/-- What came in reads as it did. -/
theorem Sat.rd (h : Sat B H L) {q : Option (Nat × Nat)} {cs : List V} (hr : Rd B q cs) : Rd H q cs := by
  rcases hr with hr | ⟨id, off, e, l, ro, rfl, hg, ht⟩
  · exact .inl hr
  · exact .inr ⟨id, off, e, l, ro, rfl, (h.ro _ _ hg).1, ht⟩

/-- An owned row of elements, and the room behind. -/
def Buf (el n : Nat) (q : Option (Nat × Nat)) (len cap : Nat) (cs : List V) : Ast := fun h =>
  cs.length = len * n ∧ OneAll cs ∧ len ≤ cap ∧
    ((q = none ∧ cap = 0 ∧ h = fun _ => none) ∨ ∃ id off l, q = some (id, off) ∧ off + cap * n ≤ l.length ∧ (l.drop off).take cs.length = cs ∧ blk id el l h)

section
variable {el n len cap : Nat} {q : Option (Nat × Nat)} {cs : List V}

theorem Sat.bufNil (h : Sat B H L) (el n : Nat) : Sat B H (Buf el n none 0 0 [] :: L) :=
  h.unemp.imp fun g hg => ⟨by simp, fun v hv => by simp at hv, Nat.le_refl _, .inl ⟨rfl, rfl, hg⟩⟩

theorem Sat.buf (h : Sat B H (Buf el n q len cap cs :: L)) :
    cs.length = len * n ∧ OneAll cs ∧ len ≤ cap ∧ ((q = none ∧ cap = 0 ∧ Sat B H L) ∨ ∃ id off l, q = some (id, off) ∧ off + cap * n ≤ l.length ∧ (l.drop off).take cs.length = cs ∧ Sat B H (blk id el l :: L)) := by
  obtain ⟨g, h1, h2, h3, h4, ⟨a, b, c, d⟩, h6⟩ := h.ex
  refine ⟨a, b, c, ?_⟩
  rcases d with ⟨d1, d2, d3⟩ | ⟨id, off, l, d1, d2, d3, d4⟩
  · exact .inl ⟨d1, d2, h.drop⟩
  · exact .inr ⟨id, off, l, d1, d2, d3, h.ok, h.low, h.ro, g, h1, h2, h3, h4, d4, h6⟩

theorem Sat.unbuf {id off : Nat} {l : List V} (h : Sat B H (blk id el l :: L)) (h1 : cs.length = len * n) (h2 : OneAll cs) (h3 : len ≤ cap) (h4 : off + cap * n ≤ l.length) (h5 : (l.drop off).take cs.length = cs) :
    Sat B H (Buf el n (some (id, off)) len cap cs :: L) :=
  h.imp fun g hg => ⟨h1, h2, h3, .inr ⟨id, off, l, rfl, h4, h5, hg⟩⟩

theorem Sat.bufRd (h : Sat B H (Buf el n q len cap cs :: L)) : Rd H q cs := by
  obtain ⟨h1, h2, h3, ⟨rfl, hc, _⟩ | ⟨id, off, l, rfl, h4, h5, h6⟩⟩ := h.buf
  · left
    have : len = 0 := by omega
    rw [this, Nat.zero_mul] at h1
    exact List.length_eq_zero_iff.1 h1
  · exact .inr ⟨id, off, el, l, false, rfl, h6.get, h5⟩

theorem Sat.bufOwn (h : Sat B H (Buf el n q len cap cs :: L)) : Own H el n q len cap cs := by
  obtain ⟨h1, h2, h3, ⟨rfl, hc, _⟩ | ⟨id, off, l, rfl, h4, h5, h6⟩⟩ := h.buf
  · exact ⟨h1, h2, h3, .inl ⟨rfl, hc⟩⟩
  · exact ⟨h1, h2, h3, .inr ⟨id, off, l, rfl, h6.get, h4, h5⟩⟩

/-- A new row. -/
theorem Sat.newBuf (h : Sat B H L) {c : Nat} {l : List V} (h1 : cs.length = len * n) (h2 : OneAll cs) (h3 : len ≤ c) (h4 : c * n ≤ l.length) (h5 : l.take cs.length = cs) :
    Sat B (H.alloc (.cells el l false)) (Buf el n (some (H.next, 0)) len c cs :: L) :=
  (h.alloc el l).unbuf h1 h2 h3 (by omega) (by simpa using h5)

/-- Append: whatever room there is. -/
theorem Sat.appendCoreQ {E : Env} {t u el n by' : Nat} {z : List V} (h : Sat B H (Buf el n q len cap cs :: L)) (he : elemOf E t = some (el, n, by', z))
    (hz : OneAll z) (hzl : z.length = n) (hn : 0 < n) {m : Nat} {x : V} {src : List V} {ok : Nat → Bool} {cf : Nat → List V} (h1 : appSrc H n by' z (kindOf E u) x = some (true, m, ok, cf)) (h2 : ok m = true) (h3 : cf m = src)
    (hsl : src.length = m * n) (h1s : OneAll src) (hbig : (len + m) * (by' + 1) ≤ 70368744177664) {K : Option (Nat × Nat) → Nat → Nat → Heap → Prop}
    (hk : ∀ q' c' H', (q' = q ∨ ∃ i, q' = some (i, 0)) → Sat B H' (Buf el n q' (len + m) c' (cs ++ src) :: L) → K q' (len + m) c' H') : appendOp E [t, u] [.slice q len cap, x] H K := by
  have ho := h.bufOwn
  simp only [appendOp, he, h1, h3, req_true]
  have hcs := ho.size
  by_cases hroom : len + m ≤ cap
  · have hb : Nat.ble (len + m) cap = true := by simpa using hroom
    rw [hb, br_true]
    by_cases hm : m = 0
    · subst hm
      have hs : src = [] := by simp at hsl; exact hsl
      subst hs
      simp only [Nat.beq, Bool.true_or, req_true, cond_true]
      exact hk _ _ _ (.inl rfl) (by simpa using h)
    · have hb : Nat.beq m 0 = false := by simp [hm]
      obtain ⟨_, h2', h3', ⟨rfl, hc, _⟩ | ⟨id, off, l, rfl, h4, h5, h6⟩⟩ := h.buf
      · omega
      · have hle : (len + m) * n ≤ cap * n := Nat.mul_le_mul_right _ hroom
        rw [Nat.add_mul] at hle
        have hw : H.wr id (off + len * n) (m * n) = true := by
          simp [Heap.wr, h6.get]; omega
        simp only [hb, Bool.false_or, Option.isSome_some, Bool.true_and, h2, Option.getD_some, hw, req_true, cond_false]
        refine hk _ _ _ (.inl rfl) (h6.store.unbuf ?_ ?_ hroom ?_ ?_)
        · rw [List.length_append, hcs, hsl, Nat.add_mul]
        · exact ho.one.append h1s
        · rw [setMany_length]; exact h4
        · rw [← hcs]; exact row_app h5 (by omega)
  · have hb : Nat.ble (len + m) cap = false := by simp; omega
    have hbig' : Nat.ble ((len + m) * (by' + 1)) 70368744177664 = true := by simpa using hbig
    have hrow : rowOk H n q len = true := by
      by_cases h0 : len = 0
      · subst h0; rfl
      · have hne : cs ≠ [] := by
          intro e
          have := ho.size
          rw [e] at this
          have := Nat.mul_pos (Nat.pos_of_ne_zero h0) hn
          simp at *; omega
        simp only [rowOk, Bool.or_eq_true, Bool.and_eq_true]
        exact .inr ⟨ho.rd.some hne, ho.rd.inb0 (by rw [ho.size]; omega) hne, allOne_of (by rw [← ho.size, ho.rd.all hne]; exact ho.one)⟩
    have hold : (bif Nat.beq len 0 then [] else H.sub (q.getD (0, 0)).1 (q.getD (0, 0)).2 (len * n)) = cs := by
      by_cases h0 : len = 0
      · subst h0
        have := ho.size
        simp at this
        subst this
        rfl
      · have hz : Nat.beq len 0 = false := by simp [h0]
        have hne : cs ≠ [] := by
          intro e
          have := ho.size
          rw [e] at this
          have := Nat.mul_pos (Nat.pos_of_ne_zero h0) hn
          simp at *; omega
        simp only [hz, cond_false]
        rw [← ho.size, ho.rd.all hne]
    rw [hb, br_false, hrow, h2, hbig', hold]
    simp only [Bool.and_self, req_true]
    intro c hc1 hc2
    have hd : Sat B H L := h.drop
    refine hk _ _ _ (.inr ⟨_, rfl⟩) (hd.newBuf ?_ ?_ hc1 ?_ ?_)
    · rw [List.length_append, hcs, hsl, Nat.add_mul]
    · exact ho.one.append h1s
    · have : (c - (len + m)) * n + (len + m) * n = c * n := by rw [← Nat.add_mul]; congr 1; omega
      rw [Nat.add_mul] at this
      simp only [catV, rowV, List.length_append, repV_len, hzl, hcs, hsl]
      omega
    · simp only [catV]
      rw [← List.append_assoc, List.take_left' rfl]

theorem Sat.appendCore {E : Env} {t u el n by' : Nat} {z : List V} (h : Sat B H (Buf el n q len cap cs :: L)) (he : elemOf E t = some (el, n, by', z))
    (hz : OneAll z) (hzl : z.length = n) (hn : 0 < n) {m : Nat} {x : V} {src : List V} {ok : Nat → Bool} {cf : Nat → List V} (h1 : appSrc H n by' z (kindOf E u) x = some (true, m, ok, cf)) (h2 : ok m = true) (h3 : cf m = src)
    (hsl : src.length = m * n) (h1s : OneAll src) (hbig : (len + m) * (by' + 1) ≤ 70368744177664) {K : Option (Nat × Nat) → Nat → Nat → Heap → Prop}
    (hk : ∀ q' c' H', Sat B H' (Buf el n q' (len + m) c' (cs ++ src) :: L) → K q' (len + m) c' H') : appendOp E [t, u] [.slice q len cap, x] H K :=
  h.appendCoreQ he hz hzl hn h1 h2 h3 hsl h1s hbig fun q' c' H' _ => hk q' c' H'

theorem appSrc_not {n by' : Nat} {z : List V} {k : Option Kind} {x : V} (h : notInt k = true) : appSrc H n by' z k x = match srcOf H n x with | some (m, ok, cs) => some (true, m, ok, cs) | none => none := by
  unfold appSrc
  split
  · cases h
  · rw [h]; rfl

theorem Sat.append {E : Env} {t u el n by' : Nat} {z : List V} (h : Sat B H (Buf el n q len cap cs :: L)) (he : elemOf E t = some (el, n, by', z)) (hu : notInt (kindOf E u) = true)
    (hz : OneAll z) (hzl : z.length = n) (hn : 0 < n) {m : Nat} {x : V} {src : List V} (hx : Src H n x m src) (hbig : (len + m) * (by' + 1) ≤ 70368744177664) {K : Option (Nat × Nat) → Nat → Nat → Heap → Prop}
    (hk : ∀ q' c' H', Sat B H' (Buf el n q' (len + m) c' (cs ++ src) :: L) → K q' (len + m) c' H') : appendOp E [t, u] [.slice q len cap, x] H K := by
  obtain ⟨ok, cf, h1, h2, h3⟩ := src_spec hx hn
  exact h.appendCore he hz hzl hn (by rw [appSrc_not hu, h1]) h2 h3 hx.1 hx.2.1 hbig hk

theorem Sat.appendQ {E : Env} {t u el n by' : Nat} {z : List V} (h : Sat B H (Buf el n q len cap cs :: L)) (he : elemOf E t = some (el, n, by', z)) (hu : notInt (kindOf E u) = true)
    (hz : OneAll z) (hzl : z.length = n) (hn : 0 < n) {m : Nat} {x : V} {src : List V} (hx : Src H n x m src) (hbig : (len + m) * (by' + 1) ≤ 70368744177664) {K : Option (Nat × Nat) → Nat → Nat → Heap → Prop}
    (hk : ∀ q' c' H', (q' = q ∨ ∃ i, q' = some (i, 0)) → Sat B H' (Buf el n q' (len + m) c' (cs ++ src) :: L) → K q' (len + m) c' H') : appendOp E [t, u] [.slice q len cap, x] H K := by
  obtain ⟨ok, cf, h1, h2, h3⟩ := src_spec hx hn
  exact h.appendCoreQ he hz hzl hn (by rw [appSrc_not hu, h1]) h2 h3 hx.1 hx.2.1 hbig hk

/-- A block is given up: it may be read, not written any more. -/
theorem Sat.freeze {id : Nat} {e : TypeId} {cs : List V} (h : Sat B H (blk id e cs :: L)) : Sat B (H.put id (.cells e cs true)) L := by
  have hg0 := h.get
  obtain ⟨g, h1, h2, h3, h4, h5, h6⟩ := h.ex
  subst h5
  refine ⟨h.ok.put hg0, h.low, fun j o ho => ?_, h3, fun j o ho => ?_, h6⟩
  · have hj := h.ro j o ho
    refine ⟨?_, hj.2⟩
    by_cases he : j = id
    · subst he
      obtain ⟨e', c', rfl⟩ := hj.2
      rw [hj.1] at hg0
      cases hg0
    · rw [Heap.get_put_ne he]; exact hj.1
  · by_cases hid : j = id
    · subst hid
      rcases h4 j with ⟨e1, _⟩ | ⟨e1, _⟩
      · simp at e1
      · rw [ho] at e1; cases e1
    · rw [Heap.get_put_ne hid]
      exact h1 j o (h4.sub2 ho)

/-- So many new elements behind a row. -/
theorem Sat.appendZ {E : Env} {t u el n by' : Nat} {z : List V} (h : Sat B H (Buf el n q len cap cs :: L)) (he : elemOf E t = some (el, n, by', z)) (hu : kindOf E u = some (.int .i64))
    (hz : OneAll z) (hzl : z.length = n) (hn : 0 < n) {m : Int} (h0 : 0 ≤ m) (hbig : (len + m.toNat) * (by' + 1) ≤ 70368744177664) {K : Option (Nat × Nat) → Nat → Nat → Heap → Prop}
    (hk : ∀ q' c' H', Sat B H' (Buf el n q' (len + m.toNat) c' (cs ++ repV m.toNat z) :: L) → K q' (len + m.toNat) c' H') : appendOp E [t, u] [.slice q len cap, .int .i64 m] H K := by
  have hb : m * (by' + 1) ≤ 70368744177664 := by
    have h1 : m.toNat * (by' + 1) ≤ (len + m.toNat) * (by' + 1) := Nat.mul_le_mul_right _ (by omega)
    have h2 : ((m.toNat * (by' + 1) : Nat) : Int) = m * (by' + 1) := by rw [Int.natCast_mul, Int.toNat_of_nonneg h0]; rfl
    omega
  refine h.appendCore (x := .int .i64 m) (u := u) (ok := fun _ => true) (cf := fun j => rowV j z) he hz hzl hn ?_ rfl rfl ?_ (repV_one hz _) hbig hk
  · rw [hu]
    show some (decide (0 ≤ m) && decide (m * (by' + 1) ≤ 70368744177664), _) = _
    rw [decide_eq_true h0, decide_eq_true hb]
    rfl
  · show (repV _ z).length = _
    rw [repV_len, hzl]

end

/-- Bytes as cells. -/
def bcells (bs : List UInt8) : List V := bs.map fun b => .int .u8 b.toNat
def strOf (bs : List UInt8) : ByteArray := ⟨bs.toArray⟩
def bytesOf (s : ByteArray) : List UInt8 := s.data.toList

@[simp] theorem bcells_len (bs : List UInt8) : (bcells bs).length = bs.length := by simp [bcells]
@[simp] theorem bcells_nil : bcells [] = [] := rfl
@[simp] theorem bcells_app (a b : List UInt8) : bcells (a ++ b) = bcells a ++ bcells b := by simp [bcells]
theorem bcells_take (a : List UInt8) (n : Nat) : (bcells a).take n = bcells (a.take n) := by simp [bcells]
theorem bcells_drop (a : List UInt8) (n : Nat) : (bcells a).drop n = bcells (a.drop n) := by simp [bcells]
theorem bcells_one (bs : List UInt8) : OneAll (bcells bs) := by
  intro v hv
  simp only [bcells, List.mem_map] at hv
  obtain ⟨b, _, rfl⟩ := hv
  rfl
theorem bcells_nth : ∀ {bs : List UInt8} {i : Nat} (h : i < bs.length), nthV (bcells bs) i = .int .u8 (bs[i].toNat : Int)
  | b :: bs, 0, h => rfl
  | b :: bs, i + 1, h => by
    show nthV (bcells bs) i = _
    rw [bcells_nth (Nat.lt_of_succ_lt_succ h)]
    rfl
theorem bcells_all : ∀ bs : List UInt8, allK (.int .u8) (bcells bs) = true
  | [] => rfl
  | b :: bs => by
    show (V.isK (.int .u8) (.int .u8 (b.toNat : Int)) && allK (.int .u8) (bcells bs)) = true
    rw [bcells_all bs]; rfl
theorem bytesOfCells_eq : ∀ (bs : List UInt8) (acc : ByteArray), bytesOfCells (bcells bs) acc = ⟨acc.data ++ bs.toArray⟩
  | [], acc => by simp [bytesOfCells, bcells]
  | b :: bs, acc => by
    show bytesOfCells (bcells bs) (acc.push (UInt8.ofNat (V.getInt (.int .u8 (b.toNat : Int))).toNat)) = _
    rw [bytesOfCells_eq bs]
    simp [ByteArray.push]
theorem str_bcells (bs : List UInt8) : bytesOfCells (bcells bs) ByteArray.empty = strOf bs := by
  rw [bytesOfCells_eq]
  show (⟨#[] ++ bs.toArray⟩ : ByteArray) = ⟨bs.toArray⟩
  simp
theorem strCells_eq (s : ByteArray) : strCells s = bcells (bytesOf s) := by simp [strCells, bcells, bytesOf]
theorem strOf_inj {a b : List UInt8} : strOf a = strOf b ↔ a = b := by
  constructor
  · intro h
    have := congrArg (fun s => s.data.toList) h
    simpa [strOf] using this
  · rintro rfl; rfl
theorem strOf_size (bs : List UInt8) : (strOf bs).size = bs.length := by simp [strOf, ByteArray.size]
theorem bytesOf_strOf (bs : List UInt8) : bytesOf (strOf bs) = bs := by simp [bytesOf, strOf]
theorem strOf_bytesOf (s : ByteArray) : strOf (bytesOf s) = s := by cases s; simp [bytesOf, strOf]
theorem strOf_nil : strOf [] = ByteArray.empty := rfl

/-- What a place reads, as bytes. -/
def RdB (H : Heap) (q : Option (Nat × Nat)) (bs : List UInt8) : Prop := Rd H q (bcells bs)

/-- An owned row of bytes; el is the number of the type uint8. -/
def Byt (el : Nat) (q : Option (Nat × Nat)) (cap : Nat) (bs : List UInt8) : Ast := Buf el 1 q bs.length cap (bcells bs)

theorem Sat.bytRd {el cap : Nat} {q : Option (Nat × Nat)} {bs : List UInt8} (h : Sat B H (Byt el q cap bs :: L)) : RdB H q bs := h.bufRd

theorem RdB.src {q : Option (Nat × Nat)} {bs : List UInt8} (h : RdB H q bs) (c : Nat) : Src H 1 (.slice q bs.length c) bs.length (bcells bs) :=
  ⟨by simp, bcells_one bs, .inl ⟨q, c, rfl, h⟩⟩

theorem str_src (H : Heap) (s : ByteArray) : Src H 1 (.str s) (bytesOf s).length (bcells (bytesOf s)) :=
  ⟨by simp, bcells_one _, .inr ⟨s, rfl, (by show s.data.toList.length = s.size; rw [Array.length_toList]; rfl), rfl, (strCells_eq s).symm⟩⟩

theorem RdB.part {q : Option (Nat × Nat)} {bs : List UInt8} (h : RdB H q bs) (i k : Nat) (hi : i + k ≤ bs.length) : RdB H (ptrAdd q i) ((bs.drop i).take k) := by
  cases q with
  | none =>
    rcases h with h | ⟨_, _, _, _, _, h, _⟩
    · have : bs = [] := by simpa [bcells] using h
      subst this
      left; simp
    · cases h
  | some q =>
    have := Rd.part h (q := some q) (id := q.1) (off := q.2) rfl i k (by simpa using hi)
    unfold RdB
    rw [← bcells_take, ← bcells_drop]
    exact this

theorem RdB.nil (H : Heap) (q : Option (Nat × Nat)) : RdB H q [] := .inl rfl

/-- One byte is read. -/
theorem RdB.at {q : Option (Nat × Nat)} {bs : List UInt8} (h : RdB H q bs) {i : Nat} (hi : i < bs.length) :
    q.isSome = true ∧ H.inb (q.getD (0, 0)).1 ((q.getD (0, 0)).2 + i) 1 = true ∧ H.cell (q.getD (0, 0)).1 ((q.getD (0, 0)).2 + i) = .int .u8 (bs[i].toNat : Int) := by
  have hne : bcells bs ≠ [] := by
    intro e
    have := congrArg List.length e
    simp at this
    subst this
    simp at hi
  refine ⟨Rd.some h hne, Rd.inb h (by simp; omega) hne, ?_⟩
  rw [Rd.cell h (by simpa using hi), bcells_nth hi]

/-- A row of bytes as a text. -/
theorem RdB.strOk {q : Option (Nat × Nat)} {bs : List UInt8} (h : RdB H q bs) : strOk H q bs.length = true := by
  unfold Am.strOk
  by_cases h0 : bs = []
  · subst h0; simp [Nat.beq]
  · have hne : bcells bs ≠ [] := by
      intro e
      have := congrArg List.length e
      simp at this
      exact h0 this
    have h4 := Rd.inb0 h (k := bs.length) (by simp) hne
    have h5 : H.sub (q.getD (0, 0)).1 (q.getD (0, 0)).2 bs.length = bcells bs := by
      have := Rd.all h hne
      simpa using this
    rw [h4, h5, bcells_all]
    simp

theorem RdB.strAt {q : Option (Nat × Nat)} {bs : List UInt8} (h : RdB H q bs) : strAt H q bs.length = strOf bs := by
  unfold Am.strAt
  by_cases h0 : bs = []
  · subst h0
    have e : Nat.beq ([] : List UInt8).length 0 = true := rfl
    rw [e, Bool.or_true, cond_true, strOf_nil]
  · have hne : bcells bs ≠ [] := by
      intro e
      have := congrArg List.length e
      simp at this
      exact h0 this
    have h1 := Rd.some h hne
    have h2 : q.isNone = false := by cases q <;> simp_all
    have h3 : Nat.beq bs.length 0 = false := by simp [h0]
    have h5 : H.sub (q.getD (0, 0)).1 (q.getD (0, 0)).2 bs.length = bcells bs := by
      have := Rd.all h hne
      simpa using this
    rw [h2, h3, h5, str_bcells]
    rfl

/-- A block that is known. -/
theorem inb_get {id : Nat} {e : TypeId} {cs : List V} {ro : Bool} (hg : H.get id = some (.cells e cs ro)) (off n : Nat) : H.inb id off n = Nat.ble (off + n) cs.length := by simp only [Heap.inb, hg]
theorem wr_get {id : Nat} {e : TypeId} {cs : List V} (hg : H.get id = some (.cells e cs false)) (off n : Nat) : H.wr id off n = Nat.ble (off + n) cs.length := by simp only [Heap.wr, hg, Bool.not_false, Bool.true_and]
theorem cell_get {id : Nat} {e : TypeId} {cs : List V} {ro : Bool} (hg : H.get id = some (.cells e cs ro)) (off : Nat) : H.cell id off = nthV cs off := by simp only [Heap.cell, Heap.cs, hg]
theorem sub_get {id : Nat} {e : TypeId} {cs : List V} {ro : Bool} (hg : H.get id = some (.cells e cs ro)) (off n : Nat) : H.sub id off n = (cs.drop off).take n := by simp only [Heap.sub, Heap.cs, hg]

/-- A place reads so, whatever else becomes of memory. -/
def Rds (B : Heap) (L : List Ast) (q : Option (Nat × Nat)) (bs : List UInt8) : Prop := ∀ H, Sat B H L → RdB H q bs

theorem Rds.nil (B : Heap) (L : List Ast) (q : Option (Nat × Nat)) : Rds B L q [] := fun H _ => RdB.nil H q
theorem Rds.part {q : Option (Nat × Nat)} {bs : List UInt8} (h : Rds B L q bs) (i k : Nat) (hi : i + k ≤ bs.length) : Rds B L (ptrAdd q i) ((bs.drop i).take k) := fun H hs => (h H hs).part i k hi
theorem Rds.more {q : Option (Nat × Nat)} {bs : List UInt8} (h : Rds B L q bs) (A : Ast) : Rds B (A :: L) q bs := fun H hs => h H hs.drop
theorem Rds.perm {q : Option (Nat × Nat)} {bs : List UInt8} (h : Rds B L q bs) (hp : L'.Perm L) : Rds B L' q bs := fun H hs => h H (hs.perm hp)
theorem Rds.of {q : Option (Nat × Nat)} {bs : List UInt8} (h : RdB B q bs) : Rds B L q bs := fun H hs => hs.rd h
theorem Sat.rdB (h : Sat B H L) {q : Option (Nat × Nat)} {bs : List UInt8} (hr : RdB B q bs) : RdB H q bs := h.rd hr
theorem Rds.byt {el cap : Nat} {q : Option (Nat × Nat)} {bs : List UInt8} : Rds B (Byt el q cap bs :: L) q bs := fun H hs => hs.bytRd
@[simp] theorem ptrAdd_zero (q : Option (Nat × Nat)) : ptrAdd q 0 = q := by rcases q with _ | ⟨a, b⟩ <;> rfl
@[simp] theorem ptrAdd_add (q : Option (Nat × Nat)) (a b : Nat) : ptrAdd (ptrAdd q a) b = ptrAdd q (a + b) := by rcases q with _ | ⟨x, y⟩ <;> simp [ptrAdd, Nat.add_assoc]

theorem mergeR_ite (c a b : Bool) : mergeR c a b = if c = true then a else b := by cases c <;> cases a <;> cases b <;> rfl

end Go.Am
