/- Each operation that touches no memory: what the abstract machine says of it holds in the machine. -/
import Derived.Test.YtibkggbidojocaaDoorAmOps2
namespace Go.Am
set_option linter.unusedSimpArgs false
set_option linter.unusedVariables false
set_option linter.unusedSectionVars false

section
variable {E : Env} {ρ lam : Ren} {w : World}

theorem constNil_spec {y : Operand} (h : isConstNil y = true) : ∃ v, y = .const v := by
  cases y with
  | const v => exact ⟨v, rfl⟩
  | _ => simp [isConstNil] at h

theorem shape_ti {t : TypeId} {i : TI} (h : E.ti t = some i) : ∃ d, E.P.underlying t = some d ∧ shapeOf d = i.sh := by
  obtain ⟨inf, d, _, h2, h3, _⟩ := ti_spec h
  exact ⟨d, h2, h3⟩

theorem desc_arr {d : TypeDesc} {n e : Nat} (h : shapeOf d = .arr n e) : d = .array n e := by cases d <;> simp_all [shapeOf]
theorem desc_slice {d : TypeDesc} {e : Nat} (h : shapeOf d = .slice e) : d = .slice e := by cases d <;> simp_all [shapeOf]
theorem desc_str {d : TypeDesc} (h : shapeOf d = .str) : d = .string := by cases d <;> simp_all [shapeOf]
theorem desc_struct {d : TypeDesc} {fs : List (Nat × TypeId)} (h : shapeOf d = .struct fs) : ∃ f, d = .struct f ∧ fs = f.toList.map fun f => (f.offset, f.type) := by
  cases d <;> simp_all [shapeOf]

theorem kind_desc' {t : TypeId} {k : Kind} (h : kindOf E t = some k) : ∃ d, E.P.underlying t = some d ∧ shapeK (shapeOf d) = some k := kind_desc h

theorem add_addr (b o n : Nat) : (⟨b, o, none⟩ : Addr).add n = ⟨b, o + n, none⟩ := by unfold Addr.add; split <;> simp_all

/-- What a pure operation comes to, in the machine. -/
def Comes' (E : Env) (ρ lam : Ren) (w : World) (o : Oper) (e : Operand → Value) (x : T) : Prop :=
  ∃ v, (execOp e o).run E.P w = .ok (.value v) w ∧ TR ρ lam x v

theorem pair_eta {p : Option (Nat × Nat)} (h : p.isSome = true) : p = some ((p.getD (0, 0)).1, (p.getD (0, 0)).2) := by
  cases p with
  | none => cases h
  | some q => rfl

variable {dst : Option Tmp} {type : TypeId} {pos : String} {after : Array Edge} {guard : Option (Nat × Bool)} {ev : Ev} {e : Operand → Value} {d : Dec T}

theorem pure_move {x : Operand} (hev : EvR ρ lam ev e) (h : pureOp E (.move x) ev = some d) : Comes' E ρ lam w ⟨dst, .move x, type, pos, after, guard⟩ e (if d.c = true then d.x else d.y) := by
  simp only [pureOp] at h
  split at h
  · rename_i y hy
    simp only [Option.some.injEq] at h
    subst h
    exact ⟨e x, rfl, hev x y hy⟩
  · cases h

theorem pure_assign {x : Operand} (hev : EvR ρ lam ev e) (h : pureOp E (.assign x) ev = some d) : Comes' E ρ lam w ⟨dst, .assign x, type, pos, after, guard⟩ e (if d.c = true then d.x else d.y) := by
  simp only [pureOp] at h
  split at h
  · rename_i y hy
    simp only [Option.some.injEq] at h
    subst h
    exact ⟨e x, rfl, hev x y hy⟩
  · cases h

theorem pure_pick {c a b : Operand} (hev : EvR ρ lam ev e) (h : pureOp E (.pick c a b) ev = some d) : Comes' E ρ lam w ⟨dst, .pick c a b, type, pos, after, guard⟩ e (if d.c = true then d.x else d.y) := by
  simp only [pureOp] at h
  split at h
  · rename_i t hc
    have hc' := (hev.tv hc).bool_eq
    have hrun : (execOp e ⟨dst, .pick c a b, type, pos, after, guard⟩).run E.P w = .ok (.value (if t = true then e a else e b)) w := by simp [execOp, asBool, hc']
    split at h
    · rename_i x y ha hb
      simp only [Option.some.injEq] at h
      subst h
      refine ⟨_, hrun, ?_⟩
      simp only [Dec.one, if_true]
      cases t
      · exact .v (hev.tv hb)
      · exact .v (hev.tv ha)
    · cases t with
      | true =>
        simp only [] at h
        split at h
        · rename_i y hy
          simp only [Option.some.injEq] at h
          subst h
          exact ⟨_, hrun, hev _ _ hy⟩
        · cases h
      | false =>
        simp only [] at h
        split at h
        · rename_i y hy
          simp only [Option.some.injEq] at h
          subst h
          exact ⟨_, hrun, hev _ _ hy⟩
        · cases h
  · cases h

theorem binQ_V {op : BinOp} {t : TypeId} {nils : Bool} {a b : V} {r : Bool} {v : V} (h : binQ E op t nils a b = some (r, v)) (hr : r = true) : binV E op t nils a b = some (r, v) := by
  unfold binQ at h
  split at h
  · split at h
    · have key : ∀ {r x}, eqNil E t a = some (r, x) → r = true → eqOther E t true a .nilIface = some (r, x) := by
        intro r x he hr
        unfold eqNil at he
        split at he
        · rename_i hk
          simp only [Option.some.injEq, Prod.mk.injEq] at he
          obtain ⟨rfl, rfl⟩ := he
          cases a <;> simp_all [V.isK, eqOther]
        · cases he
      split at h
      · split at h
        · rename_i r' b' he
          simp only [Option.some.injEq, Prod.mk.injEq] at h
          obtain ⟨rfl, rfl⟩ := h
          have := key he hr
          cases a <;> simp_all [binV]
        · cases h
      · split at h
        · rename_i r' b' he
          simp only [Option.some.injEq, Prod.mk.injEq] at h
          obtain ⟨rfl, rfl⟩ := h
          have := key he hr
          cases a <;> simp_all [binV]
        · cases h
      · cases h
    · exact h
  · exact h

theorem pure_bin {op : BinOp} {t yt : TypeId} {x y : Operand} (hev : EvR ρ lam ev e) (h : pureOp E (.binOp op t x y yt) ev = some d) (hr : d.rq = true) :
    Comes' E ρ lam w ⟨dst, .binOp op t x y yt, type, pos, after, guard⟩ e (if d.c = true then d.x else d.y) := by
  simp only [pureOp] at h
  split at h
  · rename_i a b ha hb
    unfold lift1 at h
    split at h
    · rename_i r v hv
      simp only [Option.some.injEq] at h
      subst h
      obtain ⟨v', h1, h2, h3⟩ := bin_sound (w := w) (x := x) constNil_spec (hev.v ha) (hev.v hb) (binQ_V hv hr) hr
      exact ⟨v', by simp [execOp, h1, h2], .v h3⟩
    · cases h
  · cases h

theorem pure_un {op : UnOp} {t : TypeId} {x : Operand} (hev : EvR ρ lam ev e) (h : pureOp E (.unOp op t x) ev = some d) :
    Comes' E ρ lam w ⟨dst, .unOp op t x, type, pos, after, guard⟩ e (if d.c = true then d.x else d.y) := by
  simp only [pureOp] at h
  split at h
  · rename_i a ha
    split at h
    · rename_i v hv
      simp only [Option.some.injEq] at h
      subst h
      obtain ⟨v', h1, h2⟩ := un_sound (E := E) (w := w) (hev.v ha) hv
      exact ⟨v', by simp [execOp, h1], .v h2⟩
    · cases h
  · cases h

theorem pure_convert {s t : TypeId} {x : Operand} (hev : EvR ρ lam ev e) (h : pureOp E (.convert s t x) ev = some d) :
    Comes' E ρ lam w ⟨dst, .convert s t x, type, pos, after, guard⟩ e (if d.c = true then d.x else d.y) := by
  simp only [pureOp] at h
  split at h
  · rename_i ti k k' n hti hk hx
    obtain ⟨ds, hds, _⟩ := shape_ti hti
    obtain ⟨dt, hu, hd⟩ := kind_desc hk
    simp only [Option.some.injEq] at h
    subst h
    cases dt <;> simp [shapeOf, shapeK] at hd
    subst hd
    refine ⟨_, ?_, .v (.int _ _)⟩
    simp [execOp, convert, run_underlying hds, run_underlying hu, (hev.v hx).int_eq, Conv.intToInt]
  · rename_i ti s' hti hk hx
    obtain ⟨ds, hds, _⟩ := shape_ti hti
    obtain ⟨dt, hu, hd⟩ := kind_desc hk
    simp only [Option.some.injEq] at h
    subst h
    cases dt <;> simp [shapeOf, shapeK] at hd
    exact ⟨.string s', by simp [execOp, convert, run_underlying hds, run_underlying hu, (hev.v hx).str_eq], .v (.str _)⟩
  · rename_i ti k' n hti hk hx
    obtain ⟨ds, hds, _⟩ := shape_ti hti
    obtain ⟨dt, hu, hd⟩ := kind_desc hk
    simp only [Option.some.injEq] at h
    subst h
    cases dt <;> simp [shapeOf, shapeK] at hd
    exact ⟨.string (Utf8.encode n), by simp [execOp, convert, run_underlying hds, run_underlying hu, (hev.v hx).int_eq, Conv.intToString], .v (.str _)⟩
  · cases h

theorem pure_nilCheck {x : Operand} (hev : EvR ρ lam ev e) (h : pureOp E (.nilCheck x) ev = some d) (hr : d.rq = true) :
    Comes' E ρ lam w ⟨dst, .nilCheck x, type, pos, after, guard⟩ e (if d.c = true then d.x else d.y) := by
  simp only [pureOp] at h
  split at h
  · rename_i p hp
    simp only [Option.some.injEq] at h
    subst h
    have := pair_eta (p := p) hr
    rw [this] at hp
    obtain ⟨b, hb, he⟩ := (hev.tv hp).ptr_eq
    exact ⟨.pointer (some ⟨b, (p.getD (0, 0)).2, none⟩), by simp [execOp, he], .v (.ptr hb)⟩
  · rename_i s off hx
    simp only [Option.some.injEq] at h
    subst h
    obtain ⟨b, hb, he⟩ := hev.lp hx
    exact ⟨.pointer (some ⟨b, off, none⟩), by simp [execOp, he], .lp hb⟩
  · cases h

theorem pure_fieldAddr {t : TypeId} {x : Operand} {f : Nat} (hev : EvR ρ lam ev e) (h : pureOp E (.fieldAddr t x f) ev = some d) :
    Comes' E ρ lam w ⟨dst, .fieldAddr t x f, type, pos, after, guard⟩ e (if d.c = true then d.x else d.y) := by
  simp only [pureOp] at h
  split at h
  · rename_i o ft hf
    obtain ⟨fs, fd, hu, hfd, ho, hft⟩ := field_spec hf
    split at h
    · rename_i n hn
      cases hz : natPos n
      · simp [hz] at h
      · simp only [hz, cond_true] at h
        have hn0 : ¬ n = 0 := by rintro rfl; simp [natPos] at hz
        have key : ∀ b off, (Instr.fieldAt t (.pointer (some ⟨b, off, none⟩)) f).run E.P w = .ok (.pointer (some ⟨b, off + o, none⟩)) w := by
          intro b off
          simp [Instr.fieldAt, run_underlying hu, hfd, Instr.sureAddr, fieldPlace, hft, run_size hn, hn0, add_addr, ho]
        split at h
        · rename_i id off hx
          simp only [Option.some.injEq] at h
          subst h
          obtain ⟨b, hb, he⟩ := (hev.tv hx).ptr_eq
          exact ⟨.pointer (some ⟨b, off + o, none⟩), by simp [execOp, he, key], .v (.ptr hb)⟩
        · rename_i s off hx
          simp only [Option.some.injEq] at h
          subst h
          obtain ⟨b, hb, he⟩ := hev.lp hx
          exact ⟨.pointer (some ⟨b, off + o, none⟩), by simp [execOp, he, key], .lp hb⟩
        · cases h
    · cases h
  · cases h

theorem pure_field {t : TypeId} {x : Operand} {f : Nat} (hev : EvR ρ lam ev e) (h : pureOp E (.field t x f) ev = some d) (hr : d.rq = true) :
    Comes' E ρ lam w ⟨dst, .field t x f, type, pos, after, guard⟩ e (if d.c = true then d.x else d.y) := by
  simp only [pureOp] at h
  split at h
  · rename_i o ft cs hf hx
    obtain ⟨fs, fd, hu, hfd, ho, hft⟩ := field_spec hf
    unfold lift1 at h
    split at h
    · rename_i r v hv
      simp only [Option.some.injEq] at h
      subst h
      obtain ⟨cs', he, hcs, h1c⟩ := (hev.v hx).agg_iff
      obtain ⟨v', h1, h2⟩ := part_sound hv hr h1c hcs w
      exact ⟨v', by simp [execOp, Instr.field, run_underlying hu, hfd, he, asAgg, ho, hft, h1], .v h2⟩
    · cases h
  · cases h

theorem pure_indexAddr {t : TypeId} {x i : Operand} (hev : EvR ρ lam ev e) (h : pureOp E (.indexAddr t x i) ev = some d) (hr : d.rq = true) :
    Comes' E ρ lam w ⟨dst, .indexAddr t x i, type, pos, after, guard⟩ e (if d.c = true then d.x else d.y) := by
  simp only [pureOp] at h
  split at h
  · rename_i n ti hn hti
    obtain ⟨k, hi⟩ := bound_spec hev hn
    obtain ⟨dt, hu, hd⟩ := shape_ti hti
    split at h
    · rename_i len el hs
      rw [hs] at hd
      cases desc_arr hd
      split at h
      · rename_i sz id off hsz hx
        simp only [Option.some.injEq] at h
        subst h
        simp only [Dec.one, Bool.and_eq_true, decide_eq_true_eq] at hr
        obtain ⟨b, hb, he⟩ := (hev.tv hx).ptr_eq
        exact ⟨.pointer (some ⟨b, off + n.toNat * sz, none⟩), by simp [execOp, Instr.indexAt, hi, asIntOf, run_underlying hu, he, Instr.sureAddr, hr, run_size hsz, add_addr], .v (.ptr hb)⟩
      · rename_i sz s off hsz hx
        simp only [Option.some.injEq] at h
        subst h
        simp only [Dec.one, Bool.and_eq_true, decide_eq_true_eq] at hr
        obtain ⟨b, hb, he⟩ := hev.lp hx
        exact ⟨.pointer (some ⟨b, off + n.toNat * sz, none⟩), by simp [execOp, Instr.indexAt, hi, asIntOf, run_underlying hu, he, Instr.sureAddr, hr, run_size hsz, add_addr], .lp hb⟩
      · cases h
    · rename_i el hs
      rw [hs] at hd
      cases desc_slice hd
      split at h
      · rename_i sz p len _ hsz hx
        simp only [Option.some.injEq] at h
        subst h
        simp only [Dec.one, Bool.and_eq_true, decide_eq_true_eq] at hr
        rw [pair_eta hr.2] at hx
        rcases (hev.tv hx).slice_eq with ⟨b, hb, he⟩ | ⟨h0, _, _⟩
        rotate_left
        · omega
        exact ⟨.pointer (some ⟨b, (p.getD (0, 0)).2 + n.toNat * sz, none⟩), by simp [execOp, Instr.indexAt, hi, asIntOf, run_underlying hu, he, hr.1, run_size hsz, add_addr], .v (.ptr hb)⟩
      · cases h
    · cases h
  · cases h

theorem pure_index {t : TypeId} {x i : Operand} (hev : EvR ρ lam ev e) (h : pureOp E (.index t x i) ev = some d) (hr : d.rq = true) :
    Comes' E ρ lam w ⟨dst, .index t x i, type, pos, after, guard⟩ e (if d.c = true then d.x else d.y) := by
  simp only [pureOp] at h
  split at h
  · rename_i n ti v hn hti hx
    obtain ⟨k, hi⟩ := bound_spec hev hn
    obtain ⟨dt, hu, hd⟩ := shape_ti hti
    split at h
    · rename_i len el cs hs
      rw [hs] at hd
      cases desc_arr hd
      split at h
      · rename_i sz hsz
        split at h
        · rename_i r y hp
          simp only [Option.some.injEq] at h
          subst h
          simp only [Dec.one, Bool.and_eq_true, decide_eq_true_eq] at hr
          obtain ⟨cs', he, hcs, h1c⟩ := (hev.v hx).agg_iff
          obtain ⟨v', h1, h2⟩ := part_sound hp hr.2 h1c hcs w
          exact ⟨v', by simp [execOp, Instr.index, hi, asIntOf, run_underlying hu, he, hr.1, run_size hsz, h1], .v h2⟩
        · cases h
      · cases h
    · rename_i s hs
      rw [hs] at hd
      cases desc_str hd
      simp only [Option.some.injEq] at h
      subst h
      simp only [Dec.one, Bool.and_eq_true, decide_eq_true_eq] at hr
      have hlt : n.toNat < s.size := by omega
      refine ⟨.int .u8 s[n.toNat].toNat, ?_, ?_⟩
      · simp [execOp, Instr.index, hi, asIntOf, run_underlying hu, (hev.v hx).str_eq, hr.1, getElem?_pos s n.toNat hlt]
      · have : byteAt s n.toNat = (s[n.toNat].toNat : Int) := by
          have hl : n.toNat < s.data.toList.length := by simpa using hlt
          simp only [byteAt, List.getD_eq_getElem?_getD, List.getElem?_eq_getElem hl, Option.getD_some]
          rfl
        simp only [if_true, Dec.one, this]
        exact .v (.int _ _)
    · cases h
  · cases h

end
end Go.Am
