/- How the abstract machine's states stand to the machine's. -/
import Derived.Test.YtibkggbidojocaaDoorAmSwap2
import Derived.Laws.IdiomCopy
namespace Go.Am
set_option linter.unusedSimpArgs false
set_option linter.unusedVariables false
set_option linter.unusedSectionVars false

abbrev Ren := Nat → Option Nat

inductive VR (ρ : Ren) : V → Value → Prop where
  | bool (b : Bool) : VR ρ (.bool b) (.bool b)
  | int (k : IntKind) (n : Int) : VR ρ (.int k n) (.int k n)
  | str (s : ByteArray) : VR ρ (.str s) (.string s)
  | ptrNil : VR ρ (.ptr none) (.pointer none)
  | ptr {id off b : Nat} (h : ρ id = some b) : VR ρ (.ptr (some (id, off))) (.pointer (some ⟨b, off, none⟩))
  | sliceNil (n c : Nat) : VR ρ (.slice none n c) (.slice none n c)
  | slice {id off b : Nat} (n c : Nat) (h : ρ id = some b) : VR ρ (.slice (some (id, off)) n c) (.slice (some ⟨b, off, none⟩) n c)
  | slice0 (p : Nat × Nat) (a : Addr) : VR ρ (.slice (some p) 0 0) (.slice (some a) 0 0)
  | mapNil : VR ρ (.map none) (.map none)
  | map {id b : Nat} (h : ρ id = some b) : VR ρ (.map (some id)) (.map (some b))
  | func (f : FuncId) {cs : List V} {cs' : Array Value} (hl : cs.length = cs'.size) (h : ∀ (i : Nat) (x : V) (y : Value), cs[i]? = some x → cs'[i]? = some y → VR ρ x y) :
      VR ρ (.func f cs) (.func (.func f) #[] cs')
  | nilFunc : VR ρ .nilFunc .nilFunc
  | iface (t : TypeId) {v : V} {v' : Value} (h : VR ρ v v') : VR ρ (.iface t v) (.iface t v')
  | nilIface : VR ρ .nilIface .nilIface
  | agg {cs : List V} {cs' : Array Value} (h1 : ∀ c ∈ cs, c.one = true) (hl : cs.length = cs'.size) (h : ∀ (i : Nat) (x : V) (y : Value), cs[i]? = some x → cs'[i]? = some y → VR ρ x y) : VR ρ (.agg cs) (.agg cs')
  | hole (x : Value) : VR ρ .hole x
  | tuple {cs : List V} {cs' : Array Value} (hl : cs.length = cs'.size) (h : ∀ (i : Nat) (x : V) (y : Value), cs[i]? = some x → cs'[i]? = some y → VR ρ x y) : VR ρ (.tuple cs) (.tuple cs')

def OneAll (cs : List V) : Prop := ∀ v ∈ cs, v.one = true

def VRs (ρ : Ren) (l : List V) (m : List Value) : Prop := l.length = m.length ∧ ∀ (i : Nat) (x : V) (y : Value), l[i]? = some x → m[i]? = some y → VR ρ x y

def Ren.le (ρ ρ' : Ren) : Prop := ∀ id b, ρ id = some b → ρ' id = some b

theorem Ren.le.refl (ρ : Ren) : ρ.le ρ := fun _ _ h => h
theorem Ren.le.trans {a b c : Ren} (h : a.le b) (k : b.le c) : a.le c := fun id x hx => k id x (h id x hx)

theorem VR.mono {ρ ρ' : Ren} (h : ρ.le ρ') {v : V} {x : Value} (hv : VR ρ v x) : VR ρ' v x := by
  induction hv with
  | bool b => exact .bool b
  | int k n => exact .int k n
  | str s => exact .str s
  | ptrNil => exact .ptrNil
  | ptr hb => exact .ptr (h _ _ hb)
  | sliceNil n c => exact .sliceNil n c
  | slice n c hb => exact .slice n c (h _ _ hb)
  | slice0 p a => exact .slice0 p a
  | mapNil => exact .mapNil
  | map hb => exact .map (h _ _ hb)
  | func f hl _ ih => exact .func f hl ih
  | nilFunc => exact .nilFunc
  | iface t _ ih => exact .iface t ih
  | nilIface => exact .nilIface
  | agg h1 hl _ ih => exact .agg h1 hl ih
  | hole x => exact .hole x
  | tuple hl _ ih => exact .tuple hl ih

theorem VRs.mono {ρ ρ' : Ren} (h : ρ.le ρ') {l : List V} {m : List Value} (hv : VRs ρ l m) : VRs ρ' l m :=
  ⟨hv.1, fun i x y hx hy => (hv.2 i x y hx hy).mono h⟩

theorem VRs.nil (ρ : Ren) : VRs ρ [] [] := ⟨rfl, fun i x y h => by simp at h⟩

theorem VRs.cons {ρ : Ren} {x : V} {y : Value} {l : List V} {m : List Value} (h : VR ρ x y) (hl : VRs ρ l m) : VRs ρ (x :: l) (y :: m) := by
  refine ⟨by simp [hl.1], fun i => ?_⟩
  cases i with
  | zero => intro a b ha hb; simp at ha hb; subst ha; subst hb; exact h
  | succ i => intro a b ha hb; exact hl.2 i a b (by simpa using ha) (by simpa using hb)

theorem VRs.of_cons {ρ : Ren} {x : V} {l : List V} {m : List Value} (h : VRs ρ (x :: l) m) : ∃ y m', m = y :: m' ∧ VR ρ x y ∧ VRs ρ l m' := by
  cases m with
  | nil => simp [VRs] at h
  | cons y m' =>
    refine ⟨y, m', rfl, h.2 0 x y rfl rfl, by simpa using h.1, fun i a b ha hb => h.2 (i + 1) a b (by simpa using ha) (by simpa using hb)⟩

theorem VRs.of_nil {ρ : Ren} {m : List Value} (h : VRs ρ [] m) : m = [] := by
  cases m with
  | nil => rfl
  | cons y m' => simp [VRs] at h

theorem VRs.append {ρ : Ren} {l l' : List V} {m m' : List Value} (h : VRs ρ l m) (h' : VRs ρ l' m') : VRs ρ (l ++ l') (m ++ m') := by
  refine ⟨by simp [h.1, h'.1], fun i x y hx hy => ?_⟩
  by_cases hi : i < l.length
  · rw [List.getElem?_append_left hi] at hx
    rw [List.getElem?_append_left (h.1 ▸ hi)] at hy
    exact h.2 i x y hx hy
  · rw [List.getElem?_append_right (by omega)] at hx
    rw [List.getElem?_append_right (by have := h.1; omega)] at hy
    exact h'.2 _ x y hx (by rwa [← h.1] at hy)

theorem VRs.take {ρ : Ren} {l : List V} {m : List Value} (h : VRs ρ l m) (n : Nat) : VRs ρ (l.take n) (m.take n) := by
  refine ⟨by simp [h.1], fun i x y hx hy => ?_⟩
  rw [List.getElem?_take] at hx hy
  split at hx
  · rename_i hi; rw [if_pos hi] at hy; exact h.2 i x y hx hy
  · cases hx

theorem VRs.drop {ρ : Ren} {l : List V} {m : List Value} (h : VRs ρ l m) (n : Nat) : VRs ρ (l.drop n) (m.drop n) := by
  refine ⟨by simp [h.1], fun i x y hx hy => ?_⟩
  rw [List.getElem?_drop] at hx hy
  exact h.2 _ x y hx hy

theorem nthV_eq : ∀ {l : List V} {n : Nat}, n < l.length → l[n]? = some (nthV l n)
  | [], _, h => by simp at h
  | _ :: _, 0, _ => rfl
  | _ :: l, n + 1, h => by rw [List.getElem?_cons_succ]; exact nthV_eq (l := l) (by simpa using h)

theorem VRs.nth {ρ : Ren} {l : List V} {m : List Value} (h : VRs ρ l m) {n : Nat} (hn : n < l.length) : ∃ y, m[n]? = some y ∧ VR ρ (nthV l n) y := by
  have hm : n < m.length := h.1 ▸ hn
  exact ⟨m[n], List.getElem?_eq_getElem hm, h.2 n _ _ (nthV_eq hn) (List.getElem?_eq_getElem hm)⟩

theorem VR.agg_iff {ρ : Ren} {cs : List V} {x : Value} (h : VR ρ (.agg cs) x) : ∃ cs', x = .agg cs' ∧ VRs ρ cs cs'.toList ∧ OneAll cs := by
  cases h with
  | agg h1 hl h => exact ⟨_, rfl, ⟨by simpa using hl, fun i a b ha hb => h i a b ha (by simpa using hb)⟩, h1⟩

theorem VR.mk_agg {ρ : Ren} {cs : List V} {cs' : Array Value} (h1 : OneAll cs) (h : VRs ρ cs cs'.toList) : VR ρ (.agg cs) (.agg cs') :=
  .agg h1 (by simpa using h.1) fun i a b ha hb => h.2 i a b ha (by simpa using hb)

theorem VR.tuple_iff {ρ : Ren} {cs : List V} {x : Value} (h : VR ρ (.tuple cs) x) : ∃ cs', x = .tuple cs' ∧ VRs ρ cs cs'.toList := by
  cases h with
  | tuple hl h => exact ⟨_, rfl, by simpa using hl, fun i a b ha hb => h i a b ha (by simpa using hb)⟩

theorem VR.mk_tuple {ρ : Ren} {cs : List V} {cs' : Array Value} (h : VRs ρ cs cs'.toList) : VR ρ (.tuple cs) (.tuple cs') :=
  .tuple (by simpa using h.1) fun i a b ha hb => h.2 i a b ha (by simpa using hb)

theorem VR.func_iff {ρ : Ren} {f : FuncId} {cs : List V} {x : Value} (h : VR ρ (.func f cs) x) : ∃ cs', x = .func (.func f) #[] cs' ∧ VRs ρ cs cs'.toList := by
  cases h with
  | func f hl h => exact ⟨_, rfl, by simpa using hl, fun i a b ha hb => h i a b ha (by simpa using hb)⟩

theorem VR.mk_func {ρ : Ren} {f : FuncId} {cs : List V} {cs' : Array Value} (h : VRs ρ cs cs'.toList) : VR ρ (.func f cs) (.func (.func f) #[] cs') :=
  .func f (by simpa using h.1) fun i a b ha hb => h.2 i a b ha (by simpa using hb)

theorem VR.int_eq {ρ : Ren} {k : IntKind} {n : Int} {x : Value} (h : VR ρ (.int k n) x) : x = .int k n := by cases h; rfl
theorem VR.bool_eq {ρ : Ren} {b : Bool} {x : Value} (h : VR ρ (.bool b) x) : x = .bool b := by cases h; rfl
theorem VR.str_eq {ρ : Ren} {s : ByteArray} {x : Value} (h : VR ρ (.str s) x) : x = .string s := by cases h; rfl
theorem VR.ptr_eq {ρ : Ren} {id off : Nat} {x : Value} (h : VR ρ (.ptr (some (id, off))) x) : ∃ b, ρ id = some b ∧ x = .pointer (some ⟨b, off, none⟩) := by
  cases h with | ptr h => exact ⟨_, h, rfl⟩
theorem VR.ptr_none {ρ : Ren} {x : Value} (h : VR ρ (.ptr none) x) : x = .pointer none := by cases h; rfl
theorem VR.slice_eq {ρ : Ren} {id off n c : Nat} {x : Value} (h : VR ρ (.slice (some (id, off)) n c) x) :
    (∃ b, ρ id = some b ∧ x = .slice (some ⟨b, off, none⟩) n c) ∨ (n = 0 ∧ c = 0 ∧ ∃ a, x = .slice (some a) 0 0) := by
  cases h with
  | slice _ _ h => exact .inl ⟨_, h, rfl⟩
  | slice0 p a => exact .inr ⟨rfl, rfl, a, rfl⟩
theorem VR.slice_none {ρ : Ren} {n c : Nat} {x : Value} (h : VR ρ (.slice none n c) x) : x = .slice none n c := by cases h; rfl

theorem VR.one {ρ : Ren} {v : V} {x : Value} (h : VR ρ v x) (h1 : v.one = true) : x.oneCell' = true := by
  cases h <;> simp_all [V.one, Value.oneCell']

theorem VR.cells {ρ : Ren} {v : V} {x : Value} (h : VR ρ v x) (hh : v ≠ .hole) : VRs ρ v.cells x.cells.toList := by
  by_cases hv : ∃ cs, v = .agg cs
  · obtain ⟨cs, rfl⟩ := hv
    obtain ⟨cs', rfl, h', _⟩ := h.agg_iff
    exact h'
  · have h1 : v.cells = [v] := by cases v <;> first | rfl | exact (hv ⟨_, rfl⟩).elim
    have h2 : x.cells = #[x] := by cases h <;> first | rfl | exact (hv ⟨_, rfl⟩).elim | exact (hh rfl).elim
    rw [h1, h2]
    exact .cons h (.nil ρ)

theorem ofValue_VR {ρ : Ren} {x : Value} {v : V} (h : ofValue x = some v) : VR ρ v x := by
  unfold ofValue at h
  split at h <;> first | (cases h) | skip
  · exact .bool _
  · exact .int _ _
  · exact .str _
  · exact .ptrNil
  · exact .sliceNil _ _
  · exact .mapNil
  · exact .nilFunc
  · exact .nilIface

theorem ofValues_VRs {ρ : Ren} : ∀ {l : List Value} {m : List V}, ofValues l = some m → VRs ρ m l
  | [], m, h => by simp only [ofValues, Option.some.injEq] at h; subst h; exact .nil ρ
  | x :: l, m, h => by
    simp only [ofValues] at h
    split at h
    · rename_i y m' hy hm
      simp only [Option.some.injEq] at h
      subst h
      exact .cons (ofValue_VR hy) (ofValues_VRs hm)
    · cases h

theorem ofValue_one {x : Value} {v : V} (h : ofValue x = some v) : v.one = true := by
  unfold ofValue at h
  split at h <;> first | (cases h; done) | (simp only [Option.some.injEq] at h; subst h; rfl) | cases h

theorem ofValues_one : ∀ {l : List Value} {m : List V}, ofValues l = some m → ∀ v ∈ m, v.one = true
  | [], m, h => by simp only [ofValues, Option.some.injEq] at h; subst h; intro v hv; cases hv
  | x :: l, m, h => by
    simp only [ofValues] at h
    split at h
    · rename_i y m' hy hm
      simp only [Option.some.injEq] at h
      subst h
      intro v hv
      rcases List.mem_cons.1 hv with rfl | hv
      · exact ofValue_one hy
      · exact ofValues_one hm v hv
    · cases h

theorem ofValueA_VR {ρ : Ren} {x : Value} {v : V} (h : ofValueA x = some v) : VR ρ v x := by
  unfold ofValueA at h
  split at h
  · split at h
    · rename_i cs l hl
      simp only [Option.some.injEq] at h
      subst h
      exact .mk_agg (ofValues_one hl) (ofValues_VRs hl)
    · cases h
  · exact ofValue_VR h

theorem ofValueA_one {x : Value} {v : V} (h : ofValueA x = some v) : ∀ c ∈ v.cells, c.one = true := by
  unfold ofValueA at h
  split at h
  · split at h
    · rename_i cs l hl
      simp only [Option.some.injEq] at h
      subst h
      exact ofValues_one hl
    · cases h
  · have h1 := ofValue_one h
    have : v.cells = [v] := by cases v <;> first | rfl | (simp [V.one] at h1)
    intro c hc
    rw [this] at hc
    rcases List.mem_cons.1 hc with rfl | hc
    · exact h1
    · cases hc

inductive TR (ρ lam : Ren) : T → Value → Prop where
  | v {x : V} {y : Value} (h : VR ρ x y) : TR ρ lam (.v x) y
  | lp {s off b : Nat} (h : lam s = some b) : TR ρ lam (.lp s off) (.pointer (some ⟨b, off, none⟩))
  | undef : TR ρ lam .undef (.tuple #[])

def EvR (ρ lam : Ren) (ev : Ev) (e : Operand → Value) : Prop := ∀ x t, ev x = some t → TR ρ lam t (e x)

theorem EvR.v {ρ lam : Ren} {ev : Ev} {e : Operand → Value} (h : EvR ρ lam ev e) {x : Operand} {v : V} (hx : evV ev x = some v) : VR ρ v (e x) := by
  unfold evV at hx
  split at hx
  · rename_i y hy
    cases hx
    have := h _ _ hy
    cases this with
    | v h => exact h
  · cases hx

theorem EvR.lp {ρ lam : Ren} {ev : Ev} {e : Operand → Value} (h : EvR ρ lam ev e) {x : Operand} {s off : Nat} (hx : ev x = some (.lp s off)) :
    ∃ b, lam s = some b ∧ e x = .pointer (some ⟨b, off, none⟩) := by
  have := h _ _ hx
  generalize e x = y at this
  cases this with
  | lp h => exact ⟨_, h, rfl⟩

theorem EvR.tv {ρ lam : Ren} {ev : Ev} {e : Operand → Value} (h : EvR ρ lam ev e) {x : Operand} {v : V} (hx : ev x = some (.v v)) : VR ρ v (e x) := by
  have := h _ _ hx
  generalize e x = y at this
  cases this with
  | v h => exact h

theorem EvR.vs {ρ lam : Ren} {ev : Ev} {e : Operand → Value} (h : EvR ρ lam ev e) : ∀ {l : List Operand} {vs : List V}, evVs ev l = some vs → VRs ρ vs (l.map e)
  | [], vs, hx => by simp only [evVs, Option.some.injEq] at hx; subst hx; exact .nil ρ
  | x :: l, vs, hx => by
    simp only [evVs] at hx
    split at hx
    · rename_i y m hy hm
      simp only [Option.some.injEq] at hx
      subst hx
      exact .cons (h.v hy) (h.vs hm)
    · cases hx

/-- A row of cells in the machine. -/
def CellsR (ρ : Ren) (e : TypeId) (cs : List V) (rw : Bool) (o : Option Go.Obj) : Prop :=
  ∃ cs' fz, o = some (.cells cs' e fz) ∧ VRs ρ cs cs'.toList ∧ (rw = true → OneAll cs) ∧ (rw = true → fz.1 = fz.2 ∨ cs'.size ≤ fz.1)

def ObjR (ρ : Ren) : Obj → Option Go.Obj → Prop
  | .cells e cs ro, o => CellsR ρ e cs (!ro) o
  | .map es clock, o => ∃ es' : Array MapEntry, o = some (.map es' clock) ∧ es.length = es'.size ∧
      ∀ (i : Nat) (x : V × V × Nat) (y : MapEntry), es[i]? = some x → es'[i]? = some y → VR ρ x.1 y.key ∧ VR ρ x.2.1 y.val ∧ x.2.2 = y.born

def LocR (ρ : Ren) : Loc → Option Go.Obj → Prop
  | .cells e cs, o => CellsR ρ e cs true o
  | .iter s pos, o => o = some (.stringIter s pos)

def Obj.rw : Obj → Bool
  | .cells _ _ ro => !ro
  | .map .. => true

def live (H : Heap) (ρ : Ren) (b : Nat) : Prop := ∃ id o, H.get id = some o ∧ ρ id = some b
def own (H : Heap) (ρ : Ren) (b : Nat) : Prop := ∃ id o, H.get id = some o ∧ o.rw = true ∧ ρ id = some b

structure HR (ρ : Ren) (H : Heap) (w : World) : Prop where
  obj : ∀ id o, H.get id = some o → ∃ b, ρ id = some b ∧ ObjR ρ o w.heap[b]?
  inj : ∀ id id' o o' b, H.get id = some o → H.get id' = some o' → o.rw = true → ρ id = some b → ρ id' = some b → id = id'
  lt : ∀ id b, ρ id = some b → id < H.next ∧ b < w.heap.size
  gl : ∀ g ∈ globs, ρ g = some g

/-- What has not turned since a call began. -/
structure Since (H0 : Heap) (ρ0 : Ren) (w0 : World) (H : Heap) (ρ : Ren) (w : World) : Prop where
  le : ρ0.le ρ
  frame : ∀ b, b < w0.heap.size → ¬ own H0 ρ0 b → w.heap[b]? = w0.heap[b]?
  live : ∀ b, live H ρ b → live H0 ρ0 b ∨ w0.heap.size ≤ b
  own : ∀ b, own H ρ b → own H0 ρ0 b ∨ w0.heap.size ≤ b
  size : w0.heap.size ≤ w.heap.size
  os : w.os = w0.os
  tape : w.tape = w0.tape
  output : w.output = w0.output

theorem Since.refl (H : Heap) (ρ : Ren) (w : World) : Since H ρ w H ρ w :=
  ⟨.refl ρ, fun _ _ _ => rfl, fun _ h => .inl h, fun _ h => .inl h, Nat.le_refl _, rfl, rfl, rfl⟩

theorem Since.trans {H0 H1 H2 : Heap} {ρ0 ρ1 ρ2 : Ren} {w0 w1 w2 : World} (h : Since H0 ρ0 w0 H1 ρ1 w1) (k : Since H1 ρ1 w1 H2 ρ2 w2) : Since H0 ρ0 w0 H2 ρ2 w2 where
  le := h.le.trans k.le
  frame := fun b hb ho => by
    have h1 : ¬ Am.own H1 ρ1 b := fun h1 => (h.own b h1).elim ho fun h => by omega
    rw [k.frame b (by have := h.size; omega) h1, h.frame b hb ho]
  live := fun b hb => (k.live b hb).elim (h.live b) fun h' => .inr (by have := h.size; omega)
  own := fun b hb => (k.own b hb).elim (h.own b) fun h' => .inr (by have := h.size; omega)
  size := Nat.le_trans h.size k.size
  os := k.os.trans h.os
  tape := k.tape.trans h.tape
  output := k.output.trans h.output

/-- A function's own state and the machine's. -/
structure SR (H0 : Heap) (ρ0 : Ren) (w0 : World) (ann : Ann) (N : Nat) (ρ lam : Ren) (S : St) (a : Act) (w : World) : Prop where
  defers : a.defers = []
  size : a.tmps.size = N
  tm : ∀ t x, S.tm t = some x → TR ρ lam x (a.tmps.getD t undef)
  lpb : ∀ t s off, S.tm t = some (.lp s off) → look ann.base t = some s
  lo : ∀ s L, S.lo s = some L → ∃ b, lam s = some b ∧ LocR ρ L w.heap[b]? ∧ b < w.heap.size ∧ w0.heap.size ≤ b ∧ ¬ live S.hp ρ b
  linj : ∀ s s' L L' b, S.lo s = some L → S.lo s' = some L' → lam s = some b → lam s' = some b → s = s'
  hr : HR ρ S.hp w
  since : Since H0 ρ0 w0 S.hp ρ w

theorem SR.ev {H0 : Heap} {ρ0 : Ren} {w0 : World} {ann : Ann} {N : Nat} {ρ lam : Ren} {S : St} {a : Act} {w : World} (h : SR H0 ρ0 w0 ann N ρ lam S a w) :
    EvR ρ lam (evalO S.tm) a.eval := by
  intro x t hx
  cases x with
  | tmp s => exact h.tm s t hx
  | const v =>
    simp only [evalO] at hx
    split at hx
    · rename_i y hy; cases hx; exact .v (ofValue_VR hy)
    · cases hx
  | func f => simp only [evalO, Option.some.injEq] at hx; subst hx; exact .v (.func f rfl fun i x y hx => by simp at hx)
  | global g => cases hx

end Go.Am
