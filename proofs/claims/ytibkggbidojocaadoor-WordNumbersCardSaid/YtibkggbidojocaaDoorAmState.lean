/- What a step of the abstract machine comes to in the machine: slots, frame-local blocks, the heap. -/
import Derived.Test.YtibkggbidojocaaDoorAmMem
namespace Go.Am
set_option linter.unusedSimpArgs false
set_option linter.unusedVariables false
set_option linter.unusedSectionVars false

section
variable {E : Env} {H0 : Heap} {ρ0 : Ren} {w0 : World} {ann : Ann} {N : Nat} {ρ lam : Ren} {S : St} {a : Act} {w : World}

theorem getD_put {t d : Nat} {v : Value} (a : Act) : (a.put (some d) v).tmps.getD t undef = if d = t ∧ d < a.tmps.size then v else a.tmps.getD t undef := by
  simp only [Act.put, Array.getD_eq_getD_getElem?, Array.getElem?_setIfInBounds]
  by_cases h : d = t
  · subst h
    by_cases h2 : d < a.tmps.size
    · simp [h2]
    · simp [h2]
  · simp [h]

/-- A value is laid into a slot. -/
theorem SR.put (h : SR H0 ρ0 w0 ann N ρ lam S a w) {dst : Option Tmp} {x : T} {v : Value} (hx : TR ρ lam x v) (hok : okT ann N dst x) :
    SR H0 ρ0 w0 ann N ρ lam (putU dst x S) (a.put dst v) w := by
  cases dst with
  | none => exact h
  | some d =>
    obtain ⟨h1, h2⟩ := hok d rfl
    have hd : d < a.tmps.size := by rw [h.size]; simpa using h1
    refine ⟨h.defers, by simp [Act.put, h.size], ?_, ?_, h.lo, h.linj, h.hr, h.since⟩
    · intro t y hy
      rw [getD_put]
      simp only [putU, St.setT, beq_iff] at hy
      by_cases ht : t = d
      · simp only [ht, decide_true, cond_true, Option.some.injEq] at hy
        subst hy
        rw [if_pos ⟨ht.symm, hd⟩]
        exact hx
      · simp only [ht, decide_false, cond_false] at hy
        rw [if_neg (fun e => ht e.1.symm)]
        exact h.tm t y hy
    · intro t s off hy
      simp only [putU, St.setT, beq_iff] at hy
      by_cases ht : t = d
      · simp only [ht, decide_true, cond_true, Option.some.injEq] at hy
        rw [ht]
        exact h2 s off hy
      · simp only [ht, decide_false, cond_false] at hy
        exact h.lpb t s off hy

theorem HR.only {b : Nat} {w' : World} {H : Heap} (h : HR ρ H w) (ho : Only b w w') (hb : ¬ live H ρ b) : HR ρ H w' where
  obj := fun id o hid => by
    obtain ⟨b', h1, h2⟩ := h.obj id o hid
    refine ⟨b', h1, ?_⟩
    rw [ho.other b' (fun e => hb (e ▸ ⟨id, o, hid, h1⟩))]
    exact h2
  inj := h.inj
  lt := fun id b' hid => by rw [ho.size]; exact h.lt id b' hid
  gl := h.gl

/-- A frame-local block has turned. -/
theorem SR.setL (h : SR H0 ρ0 w0 ann N ρ lam S a w) {s b : Nat} {L L' : Loc} {w' : World} (hs : S.lo s = some L) (hl : lam s = some b) (ho : Only b w w') (hL : LocR ρ L' w'.heap[b]?) :
    SR H0 ρ0 w0 ann N ρ lam (S.setL s L') a w' := by
  obtain ⟨b', hb', _, hlt, hge, hnl⟩ := h.lo s L hs
  rw [hl] at hb'
  cases hb'
  refine ⟨h.defers, h.size, h.tm, h.lpb, ?_, ?_, h.hr.only ho hnl, ?_⟩
  · intro s' M hM
    simp only [St.setL, beq_iff] at hM
    by_cases he : s' = s
    · simp only [he, decide_true, cond_true, Option.some.injEq] at hM
      subst hM
      exact ⟨b, by rw [he]; exact hl, hL, by rw [ho.size]; exact hlt, hge, hnl⟩
    · simp only [he, decide_false, cond_false] at hM
      obtain ⟨b2, h1, h2, h3, h4, h5⟩ := h.lo s' M hM
      have hne : b2 ≠ b := fun e => he (h.linj s' s M L b hM hs (e ▸ h1) hl)
      exact ⟨b2, h1, by rw [ho.other b2 hne]; exact h2, by rw [ho.size]; exact h3, h4, h5⟩
  · intro s1 s2 L1 L2 b2 h1 h2 e1 e2
    have key : ∀ s3 L3, (S.setL s L').lo s3 = some L3 → ∃ M, S.lo s3 = some M := by
      intro s3 L3 h3
      simp only [St.setL, beq_iff] at h3
      by_cases he : s3 = s
      · exact ⟨L, he ▸ hs⟩
      · simp only [he, decide_false, cond_false] at h3; exact ⟨_, h3⟩
    obtain ⟨M1, hM1⟩ := key _ _ h1
    obtain ⟨M2, hM2⟩ := key _ _ h2
    exact h.linj s1 s2 M1 M2 b2 hM1 hM2 e1 e2
  · exact ⟨h.since.le, fun b2 hb2 hno => by rw [ho.other b2 (by omega)]; exact h.since.frame b2 hb2 hno, h.since.live, h.since.own, by rw [ho.size]; exact h.since.size,
      ho.os.trans h.since.os, ho.tape.trans h.since.tape, ho.output.trans h.since.output⟩

theorem CellsR.mono {ρ' : Ren} (h : ρ.le ρ') {e : TypeId} {cs : List V} {rw : Bool} {o : Option Go.Obj} (hc : CellsR ρ e cs rw o) : CellsR ρ' e cs rw o := by
  obtain ⟨cs', fz, h1, h2, h3⟩ := hc
  exact ⟨cs', fz, h1, h2.mono h, h3⟩

theorem LocR.mono {ρ' : Ren} (h : ρ.le ρ') {L : Loc} {o : Option Go.Obj} (hc : LocR ρ L o) : LocR ρ' L o := by
  cases L with
  | cells e cs => exact CellsR.mono h hc
  | iter s pos => exact hc

theorem ObjR.mono {ρ' : Ren} (h : ρ.le ρ') {L : Obj} {o : Option Go.Obj} (hc : ObjR ρ L o) : ObjR ρ' L o := by
  cases L with
  | cells e cs ro => exact CellsR.mono h hc
  | map es clock =>
    obtain ⟨es', h1, h2, h3⟩ := hc
    exact ⟨es', h1, h2, fun i x y hx hy => by obtain ⟨k1, k2, k3⟩ := h3 i x y hx hy; exact ⟨k1.mono h, k2.mono h, k3⟩⟩

theorem TR.mono {ρ' : Ren} (h : ρ.le ρ') {x : T} {v : Value} (hx : TR ρ lam x v) : TR ρ' lam x v := by
  cases hx with
  | v h' => exact .v (h'.mono h)
  | lp h' => exact .lp h'
  | undef => exact .undef

/-- A block has been laid behind the others. -/
structure Pushed (o : Go.Obj) (w w' : World) : Prop where
  heap : w'.heap = w.heap.push o
  os : w'.os = w.os
  tape : w'.tape = w.tape
  output : w'.output = w.output

theorem Pushed.old {o : Go.Obj} {w w' : World} (h : Pushed o w w') {b : Nat} (hb : b < w.heap.size) : w'.heap[b]? = w.heap[b]? := by
  rw [h.heap, Array.getElem?_push, if_neg (by omega)]

theorem Pushed.new {o : Go.Obj} {w w' : World} (h : Pushed o w w') : w'.heap[w.heap.size]? = some o := by
  rw [h.heap, Array.getElem?_push, if_pos rfl]

theorem Pushed.size {o : Go.Obj} {w w' : World} (h : Pushed o w w') : w'.heap.size = w.heap.size + 1 := by rw [h.heap]; simp

theorem HR.pushed {o : Go.Obj} {w' : World} {H : Heap} (h : HR ρ H w) (hp : Pushed o w w') : HR ρ H w' where
  obj := fun id x hid => by
    obtain ⟨b, h1, h2⟩ := h.obj id x hid
    exact ⟨b, h1, by rw [hp.old (h.lt id b h1).2]; exact h2⟩
  inj := h.inj
  lt := fun id b hid => ⟨(h.lt id b hid).1, by rw [hp.size]; have := (h.lt id b hid).2; omega⟩
  gl := h.gl

theorem Since.pushed {o : Go.Obj} {w' : World} {H : Heap} (h : Since H0 ρ0 w0 H ρ w) (hp : Pushed o w w') : Since H0 ρ0 w0 H ρ w' where
  le := h.le
  frame := fun b hb ho => by rw [hp.old (by have := h.size; omega)]; exact h.frame b hb ho
  live := h.live
  own := h.own
  size := by rw [hp.size]; have := h.size; omega
  os := hp.os.trans h.os
  tape := hp.tape.trans h.tape
  output := hp.output.trans h.output

def updR (lam : Ren) (d b : Nat) : Ren := fun s => if s = d then some b else lam s

theorem kill_tm {d t : Nat} {x : T} (h : (kill ann d S).tm t = some x) : S.tm t = some x ∧ look ann.base t ≠ some d := by
  simp only [kill] at h
  split at h
  · rename_i s hs
    simp only [beq_iff] at h
    by_cases he : s = d
    · simp [he] at h
    · simp only [he, decide_false, cond_false] at h
      exact ⟨h, by rw [hs]; simpa using he⟩
  · rename_i hs
    exact ⟨h, by rw [hs]; simp⟩

/-- A frame-local block is made. -/
theorem SR.newL (h : SR H0 ρ0 w0 ann N ρ lam S a w) {d : Nat} {L : Loc} {o : Go.Obj} {w' : World} (hp : Pushed o w w') (hL : LocR ρ L (some o)) :
    SR H0 ρ0 w0 ann N ρ (updR lam d w.heap.size) ((kill ann d S).setL d L) a w' where
  defers := h.defers
  size := h.size
  tm := fun t x hx => by
    obtain ⟨h1, h2⟩ := kill_tm (S := S) hx
    have h3 := h.tm t x h1
    cases x with
    | v y => generalize a.tmps.getD t undef = q at h3; cases h3 with | v h => exact .v h
    | undef => generalize a.tmps.getD t undef = q at h3; cases h3 with | undef => exact .undef
    | lp s off =>
      have h4 := h.lpb t s off h1
      generalize a.tmps.getD t undef = q at h3
      cases h3 with
      | lp hl =>
        have hne : ¬ s = d := fun e => h2 (by rw [← e]; exact h4)
        exact .lp (by rw [updR, if_neg hne]; exact hl)
  lpb := fun t s off hx => h.lpb t s off (kill_tm (S := S) hx).1
  lo := fun s M hM => by
    simp only [St.setL, kill, beq_iff] at hM
    by_cases he : s = d
    · simp only [he, decide_true, cond_true, Option.some.injEq] at hM
      subst hM
      refine ⟨w.heap.size, by rw [updR, if_pos he], by rw [hp.new]; exact hL, by rw [hp.size]; omega, h.since.size, ?_⟩
      rintro ⟨id, x, h1, h2⟩
      have := (h.hr.lt id _ h2).2
      omega
    · simp only [he, decide_false, cond_false] at hM
      obtain ⟨b, h1, h2, h3, h4, h5⟩ := h.lo s M hM
      exact ⟨b, by rw [updR, if_neg he]; exact h1, by rw [hp.old h3]; exact h2, by rw [hp.size]; omega, h4, h5⟩
  linj := by
    intro s1 s2 L1 L2 b h1 h2 e1 e2
    have key : ∀ s M, ((kill ann d S).setL d L).lo s = some M → (s = d) ∨ (s ≠ d ∧ S.lo s = some M) := by
      intro s M hM
      simp only [St.setL, kill, beq_iff] at hM
      by_cases he : s = d
      · exact .inl he
      · simp only [he, decide_false, cond_false] at hM; exact .inr ⟨he, hM⟩
    rcases key _ _ h1 with r1 | ⟨n1, r1⟩ <;> rcases key _ _ h2 with r2 | ⟨n2, r2⟩
    · rw [r1, r2]
    · obtain ⟨b2, k1, _, k3, _⟩ := h.lo s2 L2 r2
      rw [updR, if_neg n2, k1] at e2
      rw [updR, if_pos r1] at e1
      cases e1; cases e2
      omega
    · obtain ⟨b2, k1, _, k3, _⟩ := h.lo s1 L1 r1
      rw [updR, if_neg n1, k1] at e1
      rw [updR, if_pos r2] at e2
      cases e1; cases e2
      omega
    · rw [updR, if_neg n1] at e1
      rw [updR, if_neg n2] at e2
      exact h.linj _ _ _ _ _ r1 r2 e1 e2
  hr := h.hr.pushed hp
  since := h.since.pushed hp

theorem next_none {H : Heap} (h : HR ρ H w) : ρ H.next = none := by
  cases hn : ρ H.next with
  | none => rfl
  | some b => have := (h.lt _ _ hn).1; omega

theorem updR_le {H : Heap} (h : HR ρ H w) (b : Nat) : ρ.le (updR ρ H.next b) := by
  intro id b' hid
  rw [updR, if_neg]
  · exact hid
  · rintro rfl
    rw [next_none h] at hid
    cases hid

theorem alloc_get {H : Heap} {o o' : Obj} {id : Nat} (h : (H.alloc o).get id = some o') : (id = H.next ∧ o' = o) ∨ (id ≠ H.next ∧ H.get id = some o') := by
  simp only [Heap.alloc, beq_iff] at h
  by_cases he : id = H.next
  · simp only [he, decide_true, cond_true, Option.some.injEq] at h; exact .inl ⟨he, h.symm⟩
  · simp only [he, decide_false, cond_false] at h; exact .inr ⟨he, h⟩

/-- A block of the heap is made. -/
theorem SR.newH (h : SR H0 ρ0 w0 ann N ρ lam S a w) {o : Go.Obj} {x : Obj} {w' : World} (hp : Pushed o w w') (hx : ObjR ρ x (some o)) :
    SR H0 ρ0 w0 ann N (updR ρ S.hp.next w.heap.size) lam { S with hp := S.hp.alloc x } a w' := by
  have hle := updR_le h.hr w.heap.size
  have old : ∀ {id b}, id ≠ S.hp.next → updR ρ S.hp.next w.heap.size id = some b → ρ id = some b := by
    intro id b hid h; rwa [updR, if_neg hid] at h
  have lv : ∀ b, live (S.hp.alloc x) (updR ρ S.hp.next w.heap.size) b → b = w.heap.size ∨ live S.hp ρ b := by
    rintro b ⟨id, o', h1, h2⟩
    rcases alloc_get h1 with ⟨rfl, rfl⟩ | ⟨hn, h1⟩
    · rw [updR, if_pos rfl] at h2; exact .inl (Option.some.inj h2).symm
    · exact .inr ⟨id, o', h1, old hn h2⟩
  have ow : ∀ b, own (S.hp.alloc x) (updR ρ S.hp.next w.heap.size) b → b = w.heap.size ∨ own S.hp ρ b := by
    rintro b ⟨id, o', h1, hr, h2⟩
    rcases alloc_get h1 with ⟨rfl, rfl⟩ | ⟨hn, h1⟩
    · rw [updR, if_pos rfl] at h2; exact .inl (Option.some.inj h2).symm
    · exact .inr ⟨id, o', h1, hr, old hn h2⟩
  refine ⟨h.defers, h.size, fun t y hy => (h.tm t y hy).mono hle, h.lpb, ?_, h.linj, ⟨?_, ?_, ?_, fun g hg => hle _ _ (h.hr.gl g hg)⟩, ?_⟩
  · intro s M hM
    obtain ⟨b, h1, h2, h3, h4, h5⟩ := h.lo s M hM
    refine ⟨b, h1, by rw [hp.old h3]; exact h2.mono hle, by rw [hp.size]; omega, h4, fun hl => ?_⟩
    rcases lv b hl with rfl | hl
    · omega
    · exact h5 hl
  · intro id o' hid
    rcases alloc_get hid with ⟨rfl, rfl⟩ | ⟨hn, hid⟩
    · exact ⟨w.heap.size, by rw [updR, if_pos rfl], by rw [hp.new]; exact hx.mono hle⟩
    · obtain ⟨b, h1, h2⟩ := h.hr.obj id o' hid
      exact ⟨b, hle _ _ h1, by rw [hp.old (h.hr.lt id b h1).2]; exact h2.mono hle⟩
  · intro id id' o1 o2 b h1 h2 hr e1 e2
    rcases alloc_get h1 with ⟨r1, _⟩ | ⟨n1, k1⟩ <;> rcases alloc_get h2 with ⟨r2, _⟩ | ⟨n2, k2⟩
    · rw [r1, r2]
    · rw [updR, if_pos r1] at e1
      have := (h.hr.lt _ _ (old n2 e2)).2
      cases e1; omega
    · rw [updR, if_pos r2] at e2
      have := (h.hr.lt _ _ (old n1 e1)).2
      cases e2; omega
    · exact h.hr.inj id id' o1 o2 b k1 k2 hr (old n1 e1) (old n2 e2)
  · intro id b hid
    by_cases hn : id = S.hp.next
    · rw [updR, if_pos hn] at hid
      cases hid
      exact ⟨by simp [Heap.alloc, hn], by rw [hp.size]; omega⟩
    · have := h.hr.lt _ _ (old hn hid)
      exact ⟨by simp [Heap.alloc]; omega, by rw [hp.size]; omega⟩
  · have hs := h.since.pushed hp
    refine ⟨hs.le.trans hle, hs.frame, fun b hb => ?_, fun b hb => ?_, hs.size, hs.os, hs.tape, hs.output⟩
    · rcases lv b hb with rfl | hb
      · exact .inr h.since.size
      · exact hs.live b hb
    · rcases ow b hb with rfl | hb
      · exact .inr h.since.size
      · exact hs.own b hb

theorem put_get {H : Heap} {o o' : Obj} {i id : Nat} (h : (H.put i o).get id = some o') : (id = i ∧ o' = o) ∨ (id ≠ i ∧ H.get id = some o') := by
  simp only [Heap.put, beq_iff] at h
  by_cases he : id = i
  · simp only [he, decide_true, cond_true, Option.some.injEq] at h; exact .inl ⟨he, h.symm⟩
  · simp only [he, decide_false, cond_false] at h; exact .inr ⟨he, h⟩

/-- A block of the heap has turned. -/
theorem SR.putH (h : SR H0 ρ0 w0 ann N ρ lam S a w) {id b : Nat} {x y : Obj} {w' : World} (hid : S.hp.get id = some x) (hrw : x.rw = true) (hy : y.rw = true) (hb : ρ id = some b)
    (ho : Only b w w') (hx : ObjR ρ y w'.heap[b]?) : SR H0 ρ0 w0 ann N ρ lam { S with hp := S.hp.put id y } a w' := by
  have lv : ∀ b, live (S.hp.put id y) ρ b → live S.hp ρ b := by
    rintro b ⟨i, o', h1, h2⟩
    rcases put_get h1 with ⟨rfl, rfl⟩ | ⟨hn, h1⟩
    · exact ⟨i, x, hid, h2⟩
    · exact ⟨i, o', h1, h2⟩
  have ow : ∀ b, own (S.hp.put id y) ρ b → own S.hp ρ b := by
    rintro b ⟨i, o', h1, hr, h2⟩
    rcases put_get h1 with ⟨rfl, rfl⟩ | ⟨hn, h1⟩
    · exact ⟨i, x, hid, hrw, h2⟩
    · exact ⟨i, o', h1, hr, h2⟩
  have hown : own S.hp ρ b := ⟨id, x, hid, hrw, hb⟩
  refine ⟨h.defers, h.size, h.tm, h.lpb, ?_, h.linj, ⟨?_, ?_, ?_, h.hr.gl⟩, ?_⟩
  · intro s M hM
    obtain ⟨b2, h1, h2, h3, h4, h5⟩ := h.lo s M hM
    have hne : b2 ≠ b := fun e => h5 (e ▸ ⟨id, x, hid, hb⟩)
    exact ⟨b2, h1, by rw [ho.other b2 hne]; exact h2, by rw [ho.size]; exact h3, h4, fun hl => h5 (lv b2 hl)⟩
  · intro i o' hi
    rcases put_get hi with ⟨rfl, rfl⟩ | ⟨hn, hi⟩
    · exact ⟨b, hb, hx⟩
    · obtain ⟨b2, h1, h2⟩ := h.hr.obj i o' hi
      have hne : b2 ≠ b := fun e => hn (h.hr.inj id i x o' b hid hi hrw hb (e ▸ h1)).symm
      exact ⟨b2, h1, by rw [ho.other b2 hne]; exact h2⟩
  · intro i i' o1 o2 b2 h1 h2 hr e1 e2
    rcases put_get h1 with ⟨r1, _⟩ | ⟨n1, k1⟩ <;> rcases put_get h2 with ⟨r2, _⟩ | ⟨n2, k2⟩
    · rw [r1, r2]
    · rw [r1] at e1 ⊢
      exact h.hr.inj id i' x o2 b2 hid k2 hrw e1 e2
    · rw [r2] at e2 ⊢
      exact (h.hr.inj id i x o1 b2 hid k1 hrw e2 e1).symm
    · exact h.hr.inj i i' o1 o2 b2 k1 k2 hr e1 e2
  · intro i b2 hi
    rw [ho.size]
    exact h.hr.lt i b2 hi
  · refine ⟨h.since.le, fun b2 hb2 hno => ?_, fun b2 hb2 => h.since.live b2 (lv b2 hb2), fun b2 hb2 => h.since.own b2 (ow b2 hb2), by rw [ho.size]; exact h.since.size,
      ho.os.trans h.since.os, ho.tape.trans h.since.tape, ho.output.trans h.since.output⟩
    have hne : b2 ≠ b := by
      rintro rfl
      rcases h.since.own b2 hown with h1 | h1
      · exact hno h1
      · omega
    rw [ho.other b2 hne]
    exact h.since.frame b2 hb2 hno

/-- Behind a call. -/
theorem SR.call (h : SR H0 ρ0 w0 ann N ρ lam S a w) {H' : Heap} {ρ' : Ren} {w' : World} (hs : Since S.hp ρ w H' ρ' w') (hr : HR ρ' H' w') :
    SR H0 ρ0 w0 ann N ρ' lam { S with hp := H' } a w' where
  defers := h.defers
  size := h.size
  tm := fun t y hy => (h.tm t y hy).mono hs.le
  lpb := h.lpb
  lo := fun s M hM => by
    obtain ⟨b, h1, h2, h3, h4, h5⟩ := h.lo s M hM
    have hno : ¬ own S.hp ρ b := fun ⟨id, o, k1, _, k2⟩ => h5 ⟨id, o, k1, k2⟩
    refine ⟨b, h1, by rw [hs.frame b h3 hno]; exact h2.mono hs.le, by have := hs.size; omega, h4, fun hl => ?_⟩
    rcases hs.live b hl with h | h
    · exact h5 h
    · omega
  linj := h.linj
  hr := hr
  since := h.since.trans hs

theorem SR.drew (h : SR H0 ρ0 w0 ann N ρ lam S a w) (n : Nat) : SR H0 ρ0 w0 ann N ρ lam S a { w with drawn := n } :=
  ⟨h.defers, h.size, h.tm, h.lpb, h.lo, h.linj, ⟨h.hr.obj, h.hr.inj, h.hr.lt, h.hr.gl⟩, ⟨h.since.le, h.since.frame, h.since.live, h.since.own, h.since.size, h.since.os, h.since.tape, h.since.output⟩⟩

end
end Go.Am
