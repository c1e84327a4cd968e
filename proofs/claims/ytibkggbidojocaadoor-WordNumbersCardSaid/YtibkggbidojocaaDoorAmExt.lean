/- Library functions that the machine has of its own. -/
import Derived.Test.YtibkggbidojocaaDoorAmMain
import Derived.Laws.Externs
import Derived.Laws.NewFold
import Derived.Below
import Derived.Lib.ParseIntB
import Derived.Lib.ItoaNum
namespace Go.Am
set_option linter.unusedSimpArgs false
set_option linter.unusedVariables false
set_option linter.unusedSectionVars false

def ovRun (args : List V) (H : Heap) (K : V → Heap → Prop) : Prop :=
  match args with
  | [.slice (some (i, o)) la _, .slice (some (j, _)) lb _] =>
    i ≠ j ∧ 0 < la ∧ 0 < lb ∧ (∃ e cs, H.get i = some (.cells e cs false) ∧ o < cs.length) ∧ (∃ e cs ro, H.get j = some (.cells e cs ro)) ∧ K (.bool true) H ∧ K (.bool false) H
  | _ => False

theorem ovRun_inv {args : List V} {H : Heap} {K : V → Heap → Prop} (h : ovRun args H K) : ∃ i o la ca j o' lb cb, args = [.slice (some (i, o)) la ca, .slice (some (j, o')) lb cb] ∧
    i ≠ j ∧ 0 < la ∧ 0 < lb ∧ (∃ e cs, H.get i = some (.cells e cs false) ∧ o < cs.length) ∧ (∃ e cs ro, H.get j = some (.cells e cs ro)) ∧ K (.bool true) H ∧ K (.bool false) H := by
  unfold ovRun at h
  split at h
  · exact ⟨_, _, _, _, _, _, _, _, rfl, h⟩
  · exact h.elim

/-- slices.overlaps, of rows in two blocks, the first of which is owned: whatever it says. -/
def extOverlaps : Ext where
  run := ovRun
  mono args H K K' h hk := by
    unfold ovRun at hk ⊢
    split at hk
    · obtain ⟨a, b, c, d, e, f, g⟩ := hk
      exact ⟨a, b, c, d, e, h _ _ f, h _ _ g⟩
    · exact hk
  strict args H K hk := by
    unfold ovRun at hk
    split at hk
    · obtain ⟨a, b, c, d, e, f, g⟩ := hk
      exact ⟨_, _, f⟩
    · exact hk.elim

theorem HR.heap {ρ : Ren} {H : Heap} {w w' : World} (h : HR ρ H w) (he : w'.heap = w.heap) : HR ρ H w' :=
  ⟨fun id o hg => by rw [he]; exact h.obj id o hg, h.inj, fun id b hb => by rw [he]; exact h.lt id b hb, h.gl⟩

theorem run_overlaps {P : Program} {w : World} {tS tR e : TypeId} (ht : P.underlying tS = some (.slice e)) {size : Nat} (hz : ∀ w, (Go.sizeOf e).run P w = .ok size w)
    {a b : Addr} {la ca lb cb : Nat} (hne : a.block ≠ b.block) {tA tB : TypeId} {kA kB : Nat} (hsa : w.shape? a.block = some (tA, kA)) (hsb : w.shape? b.block = some (tB, kB)) (hfa : w.frozen? a = false) :
    ∃ r w', (Extern.SlicesOverlaps.overlaps #[tS, tS] #[tR] #[.slice (some a) la ca, .slice (some b) lb cb]).run P w = .ok (.bool r) w' ∧ (w' = w ∨ w' = w.drew) := by
  have hnb : (a.block != b.block) = true := by simpa using hne
  have hnb' : (a.block == b.block) = false := by simpa using hne
  change ∃ r w', Sem.run P (α := Value) (do
    let some t := (#[tS, tS] : Array TypeId)[0]? | stuck "slices.overlaps: no parameter types"
    let .slice elem ← underlying t | stuck "slices.overlaps: slice type expected"
    let size ← sizeOf elem
    match (some a : Option Addr), (some b : Option Addr) with
    | some a, some b =>
      if la = 0 ∨ lb = 0 ∨ size = 0 then pure (Value.bool false)
      else if a.block != b.block && (← frozen a) && (← frozen b) then unsupported .addressObserved
      else do
        if a.block != b.block then do
          noView a; noView b
          if ← mayBeOne a b then return Value.bool ((← choose (.extern "sameAddr.stringBytes" 2)) == 1)
        pure (Value.bool (a.block == b.block && a.off < b.off + lb * size && b.off < a.off + la * size))
    | _, _ => pure (Value.bool false)) w = .ok (.bool r) w' ∧ (w' = w ∨ w' = w.drew)
  by_cases h0 : la = 0 ∨ lb = 0 ∨ size = 0
  · exact ⟨false, w, by simp [run_underlying ht, hz, h0], .inl rfl⟩
  · have hm : ∃ m, (mayBeOne a b).run P w = .ok m w := by
      cases hf1 : w.frozen? b <;> cases hf2 : w.frozen? ⟨a.block, kA, none⟩ <;> cases hf3 : w.frozen? ⟨b.block, kB, none⟩ <;> cases kA <;> cases kB <;>
        exact ⟨_, by simp [mayBeOne, stringish, shape, frozen, Sem.run, hsa, hsb, hfa, hf1, hf2, hf3]; rfl⟩
    obtain ⟨m, hm⟩ := hm
    cases m with
    | false => exact ⟨_, w, by simp [run_underlying ht, hz, h0, hnb, hnb', frozen, noView, viewAt, shape, Sem.run, hsa, hsb, hfa, hm]; rfl, .inl rfl⟩
    | true => exact ⟨_, w.drew, by simp [run_underlying ht, hz, h0, hnb, hnb', frozen, noView, viewAt, shape, Sem.run, hsa, hsb, hfa, hm, Question.forced]; rfl, .inr rfl⟩

/-- Is a function slices.overlaps, of slices of one type? -/
def OvOk (P : Program) (g : Nat) : Prop := ∃ fn tS tR e, P.funcs[g]? = some fn ∧ (fn.name == "runtime.NumGoroutine") = false ∧ fn.body.isNone = true ∧ Extern.findNext fn = none ∧
  Extern.find fn = some (Extern.SlicesOverlaps.overlaps #[tS, tS] #[tR]) ∧ P.underlying tS = some (.slice e) ∧ (P.info? e).isSome = true

/-! ### A block is laid anew -/

theorem HR.putX {E : Env} {H : Heap} {ρ : Ren} {w w' : World} (h : HR ρ H w) {id b : Nat} {x y : Obj} (hid : H.get id = some x) (hrw : x.rw = true) (hb : ρ id = some b)
    (ho : Only b w w') (hx : ObjR ρ y w'.heap[b]?) : HR ρ (H.put id y) w' ∧ Since H ρ w (H.put id y) ρ w' := by
  have lv : ∀ b, live (H.put id y) ρ b → live H ρ b := by
    rintro b ⟨i, o', h1, h2⟩
    rcases put_get h1 with ⟨rfl, rfl⟩ | ⟨hn, h1⟩
    · exact ⟨i, x, hid, h2⟩
    · exact ⟨i, o', h1, h2⟩
  have ow : ∀ b, own (H.put id y) ρ b → own H ρ b := by
    rintro b ⟨i, o', h1, hr, h2⟩
    rcases put_get h1 with ⟨rfl, rfl⟩ | ⟨hn, h1⟩
    · exact ⟨i, x, hid, hrw, h2⟩
    · exact ⟨i, o', h1, hr, h2⟩
  have hown : own H ρ b := ⟨id, x, hid, hrw, hb⟩
  refine ⟨⟨?_, ?_, ?_, h.gl⟩, .refl ρ, fun b2 hb2 hno => ?_, fun b2 hb2 => .inl (lv b2 hb2), fun b2 hb2 => .inl (ow b2 hb2), by rw [ho.size]; exact Nat.le_refl _, ho.os, ho.tape, ho.output⟩
  · intro i o' hi
    rcases put_get hi with ⟨rfl, rfl⟩ | ⟨hn, hi⟩
    · exact ⟨b, hb, hx⟩
    · obtain ⟨b2, h1, h2⟩ := h.obj i o' hi
      have hne : b2 ≠ b := fun e => hn (h.inj id i x o' b hid hi hrw hb (e ▸ h1)).symm
      exact ⟨b2, h1, by rw [ho.other b2 hne]; exact h2⟩
  · intro i i' o1 o2 b2 h1 h2 hr e1 e2
    rcases put_get h1 with ⟨r1, _⟩ | ⟨n1, k1⟩ <;> rcases put_get h2 with ⟨r2, _⟩ | ⟨n2, k2⟩
    · rw [r1, r2]
    · rw [r1] at e1 ⊢
      exact h.inj id i' x o2 b2 hid k2 hrw e1 e2
    · rw [r2] at e2 ⊢
      exact (h.inj id i x o1 b2 hid k1 hrw e2 e1).symm
    · exact h.inj i i' o1 o2 b2 k1 k2 hr e1 e2
  · intro i b2 hi
    rw [ho.size]
    exact h.lt i b2 hi
  · have hne : b2 ≠ b := by
      rintro rfl
      exact hno hown
    rw [ho.other b2 hne]

/-! ### strings.Builder -/

/-- Nothing in memory has turned. -/
def Quiet (w w' : World) : Prop := w'.heap = w.heap ∧ w'.os = w.os ∧ w'.tape = w.tape ∧ w'.output = w.output

/-- copyCheck: of a builder that is fresh, or whose own address is written in it. -/
def ccRun (P : Program) (u : TypeId) (args : List V) (H : Heap) (K : V → Heap → Prop) : Prop :=
  match args with
  | [.ptr (some (id, off))] => ∃ e cs, H.get id = some (.cells e cs false) ∧ off < cs.length ∧ liesAt P P.depth e (cs.length / P.cellsOf e) off u 1 = true ∧
      ((cs[off]? = some (.ptr none) ∧ K (.tuple []) (H.store id off [.ptr (some (id, off))])) ∨ (cs[off]? = some (.ptr (some (id, off))) ∧ K (.tuple []) H))
  | _ => False

/-- String: of a builder with a buffer of its own, or none; the buffer is not written any more. -/
def bsRun (eb : TypeId) (args : List V) (H : Heap) (K : V → Heap → Prop) : Prop :=
  match args with
  | [.ptr (some (id, off))] => ∃ e cs ro, H.get id = some (.cells e cs ro) ∧
      ((cs[off + 1]? = some (.slice none 0 0) ∧ K (.str ⟨#[]⟩) H) ∨
       (∃ i l c rest, cs[off + 1]? = some (.slice (some (i, 0)) l.length c) ∧ l ≠ [] ∧ l.length ≤ c ∧ l.length ≤ 9223372036854775807 ∧ H.get i = some (.cells eb (l.map (fun b : UInt8 => V.int .u8 (b.toNat : Int)) ++ rest) false) ∧
        K (.str ⟨l.toArray⟩) (H.put i (.cells eb (l.map (fun b : UInt8 => V.int .u8 (b.toNat : Int)) ++ rest) true))))
  | _ => False

/-- The place of a byte in a text. -/
def idxB (s : ByteArray) (c : UInt8) : Int := match (List.range s.size).find? fun i => s[i]! == c with | some i => (i : Int) | none => -1

def ibRun (args : List V) (H : Heap) (K : V → Heap → Prop) : Prop :=
  match args with
  | [.str s, .int .u8 c] => K (.int .i64 (idxB s c.toNat.toUInt8)) H
  | _ => False

/-- Is there a value of an interface in a block? -/
def ifAt (H : Heap) (g : Nat) : Prop := ∃ e t cs ro, H.get g = some (.cells e (.iface t .hole :: cs) ro)

/-- strconv.ParseInt at base 10, 64 bits: gS and gR are the blocks of the two errors. -/
def piRun (gS gR : Nat) (args : List V) (H : Heap) (K : V → Heap → Prop) : Prop :=
  match args with
  | [.str s, .int .i64 10, .int .i64 64] => s.size ≤ 281474976710656 ∧ (gS ∈ globs ∧ gR ∈ globs) ∧ ifAt H gS ∧ ifAt H gR ∧
      (match Lib.parseIntB 64 s.data.toList with
      | .ok v => K (.tuple [.int .i64 v, .nilIface]) H
      | _ => ∀ v t, K (.tuple [.int .i64 v, .iface t .hole]) H)
  | _ => False

/-- strconv.FormatInt at base 10: gT is the block of the table of powers. -/
def fiRun (gT : Nat) (tab : List Int) (args : List V) (H : Heap) (K : V → Heap → Prop) : Prop :=
  match args with
  | [.int .i64 n, .int .i64 10] => (-9223372036854775808 ≤ n ∧ n ≤ 9223372036854775807 ∧ gT ∈ globs) ∧ (∃ e ro, H.get gT = some (.cells e (tab.map fun z => V.int .u64 z) ro)) ∧ K (.str ⟨(Lib.itoa n).toArray⟩) H
  | _ => False

/-- A library function that the machine has of its own. -/
inductive XK where
  | parseInt (gS gR : Nat)
  | formatInt (gT : Nat) (tab : List Int)
  | overlaps
  | copyCheck (u : TypeId)
  | bString (eb : TypeId)
  | indexByte

def extOf (P : Program) : XK → Ext
  | .overlaps => extOverlaps
  | .copyCheck u =>
    { run := ccRun P u
      mono := by
        intro args H K K' h hk
        unfold ccRun at hk ⊢
        split at hk
        · obtain ⟨e, cs, a, b, c, d⟩ := hk
          exact ⟨e, cs, a, b, c, d.imp (fun d => ⟨d.1, h _ _ d.2⟩) fun d => ⟨d.1, h _ _ d.2⟩⟩
        · exact hk
      strict := by
        intro args H K hk
        unfold ccRun at hk
        split at hk
        · obtain ⟨e, cs, a, b, c, d | d⟩ := hk
          · exact ⟨_, _, d.2⟩
          · exact ⟨_, _, d.2⟩
        · exact hk.elim }
  | .bString eb =>
    { run := bsRun eb
      mono := by
        intro args H K K' h hk
        unfold bsRun at hk ⊢
        split at hk
        · obtain ⟨e, cs, ro, a, d⟩ := hk
          refine ⟨e, cs, ro, a, d.imp (fun d => ⟨d.1, h _ _ d.2⟩) ?_⟩
          rintro ⟨i, l, c, rest, d1, d2, d3, d4, d5, d6⟩
          exact ⟨i, l, c, rest, d1, d2, d3, d4, d5, h _ _ d6⟩
        · exact hk
      strict := by
        intro args H K hk
        unfold bsRun at hk
        split at hk
        · obtain ⟨e, cs, ro, a, d | ⟨i, l, c, rest, d1, d2, d3, d4, d5, d6⟩⟩ := hk
          · exact ⟨_, _, d.2⟩
          · exact ⟨_, _, d6⟩
        · exact hk.elim }
  | .parseInt gS gR =>
    { run := piRun gS gR
      mono := by
        intro args H K K' h hk
        unfold piRun at hk ⊢
        split at hk
        · obtain ⟨a, a', b, c, d⟩ := hk
          refine ⟨a, a', b, c, ?_⟩
          split at d
          · exact h _ _ d
          · exact fun v t => h _ _ (d v t)
        · exact hk
      strict := by
        intro args H K hk
        unfold piRun at hk
        split at hk
        · obtain ⟨a, a', b, c, d⟩ := hk
          split at d
          · exact ⟨_, _, d⟩
          · exact ⟨_, _, d 0 0⟩
        · exact hk.elim }
  | .formatInt gT tab =>
    { run := fiRun gT tab
      mono := by
        intro args H K K' h hk
        unfold fiRun at hk ⊢
        split at hk
        · exact ⟨hk.1, hk.2.1, h _ _ hk.2.2⟩
        · exact hk
      strict := by
        intro args H K hk
        unfold fiRun at hk
        split at hk
        · exact ⟨_, _, hk.2.2⟩
        · exact hk.elim }
  | .indexByte =>
    { run := ibRun
      mono := by
        intro args H K K' h hk
        unfold ibRun at hk ⊢
        split at hk
        · exact h _ _ hk
        · exact hk
      strict := by
        intro args H K hk
        unfold ibRun at hk
        split at hk
        · exact ⟨_, _, hk⟩
        · exact hk.elim }

/-- What is to be shown of such a function of a program. -/
def XOk (P : Program) (g : Nat) : XK → Prop
  | .overlaps => OvOk P g
  | .copyCheck u => (∀ args w, (callFunc g args).run P w = .ok (.enter g args) w) ∧
      (∀ (b off : Nat) (w : World) (e : TypeId) (cells : Nat), w.cell? ⟨b, off, none⟩ = some (.pointer none) → w.shape? b = some (e, cells) → off < cells → w.frozen? ⟨b, off, none⟩ = false →
        liesAt P P.depth e (cells / P.cellsOf e) off u 1 = true →
        Calls P g #[.pointer (some ⟨b, off, none⟩)] w fun x w' => x = .returned (.tuple #[]) ∧ w' = w.setCell ⟨b, off, none⟩ (.pointer (some ⟨b, off, none⟩))) ∧
      (∀ (b off : Nat) (w : World), w.cell? ⟨b, off, none⟩ = some (.pointer (some ⟨b, off, none⟩)) →
        Calls P g #[.pointer (some ⟨b, off, none⟩)] w fun x w' => x = .returned (.tuple #[]) ∧ w' = w)
  | .bString eb => (∀ args w, (callFunc g args).run P w = .ok (.enter g args) w) ∧
      (∀ (b off : Nat) (w : World), w.cell? ⟨b, off + 1, none⟩ = some (.slice none 0 0) →
        Calls P g #[.pointer (some ⟨b, off, none⟩)] w fun x w' => x = .returned (.string ⟨#[]⟩) ∧ Quiet w w') ∧
      (∀ (b off : Nat) (w : World) (i : Nat) (l : List UInt8) (c cells : Nat), w.cell? ⟨b, off + 1, none⟩ = some (.slice (some ⟨i, 0, none⟩) l.length c) → l ≠ [] → l.length ≤ c →
        w.shape? i = some (eb, cells) → l.length ≤ cells → l.length ≤ 9223372036854775807 → (∀ j x, l[j]? = some x → w.cell? ((⟨i, 0, none⟩ : Addr).add j) = some (.int .u8 x.toNat)) →
        Calls P g #[.pointer (some ⟨b, off, none⟩)] w fun x w' => x = .returned (.string ⟨l.toArray⟩) ∧ Quiet (w.freeze ⟨i, 0, none⟩ l.length) w')
  | .parseInt gS gR => (∀ args w, (callFunc g args).run P w = .ok (.enter g args) w) ∧
      (∀ (s : ByteArray) (v : Int) (w : World), s.size ≤ 281474976710656 → Lib.parseIntB 64 s.data.toList = .ok v →
        Calls P g #[.string s, .int .i64 10, .int .i64 64] w fun x w' => x = .returned (.tuple #[.int .i64 v, .nilIface]) ∧ RowKit.Below w.heap.size w w') ∧
      (∀ (s : ByteArray) (w : World) (tS tR : TypeId) (pS pR : Value), s.size ≤ 281474976710656 → (∀ v, Lib.parseIntB 64 s.data.toList ≠ .ok v) →
        w.cell? ⟨gS, 0, none⟩ = some (.iface tS pS) → w.cell? ⟨gR, 0, none⟩ = some (.iface tR pR) →
        Calls P g #[.string s, .int .i64 10, .int .i64 64] w fun x w' => ∃ v t p, x = .returned (.tuple #[.int .i64 v, .iface t p]) ∧ RowKit.Below w.heap.size w w')
  | .formatInt gT tab => (∀ args w, (callFunc g args).run P w = .ok (.enter g args) w) ∧
      (∀ (n : Int) (w : World) (e : TypeId) (fz : Nat × Nat), -9223372036854775808 ≤ n → n ≤ 9223372036854775807 → w.heap[gT]? = some (.cells (tab.map fun z => Value.int .u64 z).toArray e fz) →
        Calls P g #[.int .i64 n, .int .i64 10] w fun x w' => x = .returned (.string ⟨(Lib.itoa n).toArray⟩) ∧ RowKit.Below w.heap.size w w')
  | .indexByte => ∃ fn, P.funcs[g]? = some fn ∧ (fn.name == "runtime.NumGoroutine") = false ∧ fn.body.isNone = true ∧ Extern.findNext fn = none ∧
      Extern.find fn = some Extern.BytealgIndexByte.indexByte

theorem enters {P : Program} {f : FuncId} {fn : Func} {c : Code} (hf : P.funcs[f]? = some fn) (hname : (fn.name == "runtime.NumGoroutine") = false) (hb : fn.body = some c) (args : Array Value) (w : World) :
    (callFunc f args).run P w = .ok (.enter f args) w := by
  have h1 : fn.name ≠ "runtime.NumGoroutine" := by simpa using hname
  simp [callFunc, hf, h1, hb, mark]

/-- The table of library functions. -/
def extTab (P : Program) (l : List (Nat × XK)) (g : Nat) : Option Ext := (look l g).map (extOf P)

theorem Quiet.since {H : Heap} {ρ : Ren} {w w' : World} (h : Quiet w w') : Since H ρ w H ρ w' :=
  ⟨.refl ρ, fun _ _ _ => by rw [h.1], fun _ h => .inl h, fun _ h => .inl h, by rw [h.1]; exact Nat.le_refl _, h.2.1, h.2.2.1, h.2.2.2⟩

theorem only_freeze (w : World) (b o n : Nat) : Only b w (w.freeze ⟨b, o, none⟩ n) := by
  unfold World.freeze
  split
  · exact .refl b w
  · exact ⟨fun b' hb => by simp only [Array.getElem?_modify]; rw [if_neg (fun e => hb e.symm)], by simp, rfl, rfl, rfl⟩

theorem Only.quiet {b : Nat} {w w1 w2 : World} (h : Only b w w1) (k : Quiet w1 w2) : Only b w w2 :=
  ⟨fun b' hb => by rw [k.1]; exact h.other b' hb, by rw [k.1]; exact h.size, k.2.1.trans h.os, k.2.2.1.trans h.tape, k.2.2.2.trans h.output⟩

theorem cc_sound {E : Env} {g : Nat} {u : TypeId} (hok : XOk E.P g (.copyCheck u)) {args : List V} {H : Heap} {K : V → Heap → Prop} (hk : ccRun E.P u args H K) {ρ : Ren} {w : World} {as : Array Value}
    (hr : HR ρ H w) (ha : VRs ρ args as.toList) : (callFunc g as).run E.P w = .ok (.enter g as) w ∧ Calls E.P g as w (CallPost H ρ w K) := by
  obtain ⟨ho, h1, h2⟩ := hok
  refine ⟨ho as w, ?_⟩
  unfold ccRun at hk
  split at hk
  rotate_left
  · exact hk.elim
  rename_i id off
  obtain ⟨e, cs, hg, hoff, hl, hc⟩ := hk
  obtain ⟨x1, r1, hr1, hx1, hrest⟩ := ha.of_cons
  have hr3 := hrest.of_nil
  subst hr3
  obtain rfl : as = #[x1] := by apply Array.ext'; rw [hr1]
  obtain ⟨b, hb, rfl⟩ := hx1.ptr_eq
  obtain ⟨b', hb', cs', fz, hh, hv, hone, hfz⟩ := hr.obj id _ hg
  rw [hb] at hb'
  cases hb'
  have hlen : cs'.size = cs.length := by have := hv.1; simp at this; omega
  have hsome : ∃ y, cs'[off]? = some y := ⟨cs'[off]'(by omega), Array.getElem?_eq_getElem _⟩
  obtain ⟨y, hy⟩ := hsome
  have hcell : w.cell? ⟨b, off, none⟩ = some y := by rw [cell_at hh, hy]
  rcases hc with ⟨hc, hK⟩ | ⟨hc, hK⟩
  · have hvy := hv.2 off _ y hc (by simpa using hy)
    have hy' := hvy.ptr_none
    subst hy'
    refine (h1 b off w e cs'.size hcell (by simp [World.shape?, hh]) (by omega) ?_ (by rw [hlen]; exact hl)).mono ?_
    · rw [frozen_at hh]
      rcases hfz rfl with h | h
      · rw [h]
        by_cases hlt : fz.2 ≤ off
        · have : ¬ off < fz.2 := by omega
          simp [this]
        · simp [hlt]
      · have : ¬ fz.1 ≤ off := by omega
        simp [this]
    · rintro x w' ⟨rfl, rfl⟩
      have hput : H.store id off [.ptr (some (id, off))] = H.put id (.cells e (setMany cs off [.ptr (some (id, off))]) false) := by simp [Heap.store, hg]
      have hp := hr.putX (E := E) (y := .cells e (setMany cs off [.ptr (some (id, off))]) false) hg rfl hb (only_setCell w b off (.pointer (some ⟨b, off, none⟩))) (by
        refine ⟨_, fz, heap_setCell hh off _, ?_, fun _ => ?_, fun _ => ?_⟩
        · have := setMany_rel (ρ := ρ) (vs := [.ptr (some (id, off))]) (us := [.pointer (some ⟨b, off, none⟩)]) (off := off) (.cons (.ptr hb) (.nil ρ)) hv
          simpa [setManyL] using this
        · exact setMany_one (fun v hv => by simp at hv; subst hv; rfl) (hone rfl)
        · simpa using hfz rfl)
      exact ⟨.tuple [], .tuple #[], _, ρ, rfl, hput ▸ hK, .mk_tuple (.nil ρ), hp.1, hp.2⟩
  · have hvy := hv.2 off _ y hc (by simpa using hy)
    obtain ⟨b2, hb2, hy'⟩ := hvy.ptr_eq
    rw [hb] at hb2
    cases hb2
    subst hy'
    refine (h2 b off w hcell).mono ?_
    rintro x w' ⟨rfl, rfl⟩
    exact ⟨.tuple [], .tuple #[], H, ρ, rfl, hK, .mk_tuple (.nil ρ), hr, .refl H ρ w'⟩

theorem bs_sound {E : Env} {g : Nat} {eb : TypeId} (hok : XOk E.P g (.bString eb)) {args : List V} {H : Heap} {K : V → Heap → Prop} (hk : bsRun eb args H K) {ρ : Ren} {w : World} {as : Array Value}
    (hr : HR ρ H w) (ha : VRs ρ args as.toList) : (callFunc g as).run E.P w = .ok (.enter g as) w ∧ Calls E.P g as w (CallPost H ρ w K) := by
  obtain ⟨ho, h1, h2⟩ := hok
  refine ⟨ho as w, ?_⟩
  unfold bsRun at hk
  split at hk
  rotate_left
  · exact hk.elim
  rename_i id off
  obtain ⟨e, cs, ro, hg, hc⟩ := hk
  obtain ⟨x1, r1, hr1, hx1, hrest⟩ := ha.of_cons
  have hr3 := hrest.of_nil
  subst hr3
  obtain rfl : as = #[x1] := by apply Array.ext'; rw [hr1]
  obtain ⟨b, hb, rfl⟩ := hx1.ptr_eq
  obtain ⟨b', hb', cs', fz, hh, hv, -⟩ := hr.obj id _ hg
  rw [hb] at hb'
  cases hb'
  have hlen : cs'.size = cs.length := by have := hv.1; simp at this; omega
  have hcellof : ∀ v, cs[off + 1]? = some v → ∃ y, w.cell? ⟨b, off + 1, none⟩ = some y ∧ VR ρ v y := by
    intro v hv1
    have hlt : off + 1 < cs.length := (List.getElem?_eq_some_iff.1 hv1).1
    have hy : cs'[off + 1]? = some (cs'[off + 1]'(by omega)) := Array.getElem?_eq_getElem _
    exact ⟨_, by rw [cell_at hh, hy], hv.2 (off + 1) v _ hv1 (by rw [Array.getElem?_toList]; exact hy)⟩
  rcases hc with ⟨hc, hK⟩ | ⟨i, l, c, rest, hc, hl0, hlc, hl63, hgi, hK⟩
  · obtain ⟨y, hcell, hvy⟩ := hcellof _ hc
    have hy' := hvy.slice_none
    subst hy'
    refine (h1 b off w hcell).mono ?_
    rintro x w' ⟨rfl, hq⟩
    exact ⟨.str ⟨#[]⟩, .string ⟨#[]⟩, H, ρ, rfl, hK, .str _, hr.heap hq.1, hq.since⟩
  · obtain ⟨y, hcell, hvy⟩ := hcellof _ hc
    rcases hvy.slice_eq with ⟨bi, hbi, rfl⟩ | ⟨h0, _⟩
    rotate_left
    · exact absurd (List.length_eq_zero_iff.1 h0) hl0
    obtain ⟨bi', hbi', ds, fzi, hhi, hvi, honei, hfzi⟩ := hr.obj i _ hgi
    rw [hbi] at hbi'
    cases hbi'
    have hsz : ds.size = l.length + rest.length := by have := hvi.1; simp at this; omega
    refine (h2 b off w bi l c ds.size hcell hl0 hlc (by simp [World.shape?, hhi]) (by omega) hl63 ?_).mono ?_
    · intro j x hj
      have hjl : j < l.length := (List.getElem?_eq_some_iff.1 hj).1
      have hy : ds[j]? = some (ds[j]'(by omega)) := Array.getElem?_eq_getElem _
      have hvj := hvi.2 j (V.int .u8 (x.toNat : Int)) _ (by rw [List.getElem?_append_left (by simpa using hjl), List.getElem?_map, hj]; rfl) (by rw [Array.getElem?_toList]; exact hy)
      have := hvj.int_eq
      have e1 : (⟨bi, 0, none⟩ : Addr).add j = ⟨bi, j, none⟩ := by unfold Addr.add; by_cases hj0 : j = 0 <;> simp [hj0]
      rw [e1, cell_at hhi, hy, this]
    · rintro x w' ⟨rfl, hq⟩
      have honly := (only_freeze w bi 0 l.length).quiet hq
      have hp := hr.putX (E := E) (y := .cells eb (l.map (fun b : UInt8 => V.int .u8 (b.toNat : Int)) ++ rest) true) hgi rfl hbi honly (by
        have hl1 : l.length ≠ 0 := fun h => hl0 (List.length_eq_zero_iff.1 h)
        have : ∃ fz', w'.heap[bi]? = some (.cells ds eb fz') := by
          rw [hq.1]
          exact ⟨_, by simp [World.freeze, hl1, Array.getElem?_modify, hhi]; rfl⟩
        obtain ⟨fz', hw⟩ := this
        exact ⟨ds, fz', hw, hvi, nofun, nofun⟩)
      exact ⟨.str ⟨l.toArray⟩, .string ⟨l.toArray⟩, _, ρ, rfl, hK, .str _, hp.1, hp.2⟩

theorem HR.below {H : Heap} {ρ : Ren} {w w' : World} (h : HR ρ H w) (hb : RowKit.Below w.heap.size w w') : HR ρ H w' where
  obj := fun id o hid => by
    obtain ⟨b, h1, h2⟩ := h.obj id o hid
    exact ⟨b, h1, by rw [hb.block b (h.lt id b h1).2]; exact h2⟩
  inj := h.inj
  lt := fun id b hid => ⟨(h.lt id b hid).1, Nat.lt_of_lt_of_le (h.lt id b hid).2 hb.size⟩
  gl := h.gl

theorem since_of_below {H : Heap} {ρ : Ren} {w w' : World} (hb : RowKit.Below w.heap.size w w') : Since H ρ w H ρ w' :=
  ⟨.refl ρ, fun b h _ => hb.block b h, fun _ h => .inl h, fun _ h => .inl h, hb.size, hb.os, hb.tape, hb.output⟩

theorem pi_sound {E : Env} {g gS gR : Nat} (hok : XOk E.P g (.parseInt gS gR)) {args : List V} {H : Heap} {K : V → Heap → Prop} (hk : piRun gS gR args H K) {ρ : Ren} {w : World} {as : Array Value}
    (hr : HR ρ H w) (ha : VRs ρ args as.toList) : (callFunc g as).run E.P w = .ok (.enter g as) w ∧ Calls E.P g as w (CallPost H ρ w K) := by
  obtain ⟨ho, h1, h2⟩ := hok
  refine ⟨ho as w, ?_⟩
  unfold piRun at hk
  split at hk
  rotate_left
  · exact hk.elim
  rename_i s
  obtain ⟨hs, ⟨hS, hR⟩, ⟨e1, t1, cs1, ro1, hg1⟩, ⟨e2, t2, cs2, ro2, hg2⟩, hm⟩ := hk
  have hS := hr.gl _ hS
  have hR := hr.gl _ hR
  obtain ⟨x1, r1, hr1, hx1, hrest⟩ := ha.of_cons
  obtain ⟨x2, r2, hr2, hx2, hrest2⟩ := hrest.of_cons
  obtain ⟨x3, r3, hr3, hx3, hrest3⟩ := hrest2.of_cons
  have hr4 := hrest3.of_nil
  subst hr4; subst hr3; subst hr2
  obtain rfl : as = #[x1, x2, x3] := by apply Array.ext'; rw [hr1]
  have q1 := hx1.str_eq
  have q2 := hx2.int_eq
  have q3 := hx3.int_eq
  subst q1; subst q2; subst q3
  have cell : ∀ g e t cs ro, H.get g = some (.cells e (.iface t .hole :: cs) ro) → ρ g = some g → ∃ p, w.cell? ⟨g, 0, none⟩ = some (.iface t p) := by
    intro g e t cs ro hg hρ
    obtain ⟨b, hb, cs', fz, hh, hv, -⟩ := hr.obj g _ hg
    rw [hρ] at hb
    cases hb
    have hlen : 0 < cs'.size := by have := hv.1; simp at this; omega
    have hy : cs'[0]? = some (cs'[0]'hlen) := Array.getElem?_eq_getElem _
    have hvy := hv.2 0 (.iface t .hole) _ rfl (by rw [Array.getElem?_toList]; exact hy)
    generalize cs'[0]'hlen = y at hy hvy
    cases hvy with
    | iface _ h => exact ⟨_, by rw [cell_at hh, hy]⟩
  obtain ⟨p1, hc1⟩ := cell _ _ _ _ _ hg1 hS
  obtain ⟨p2, hc2⟩ := cell _ _ _ _ _ hg2 hR
  split at hm
  · rename_i v hv
    refine (h1 s v w hs hv).mono ?_
    rintro x w' ⟨rfl, hb⟩
    exact ⟨_, _, H, ρ, rfl, hm, .mk_tuple (.cons (.int _ _) (.cons .nilIface (.nil ρ))), hr.below hb, since_of_below hb⟩
  · rename_i hv
    refine (h2 s w _ _ _ _ hs (fun v e => hv v e) hc1 hc2).mono ?_
    rintro x w' ⟨v, t, p, rfl, hb⟩
    exact ⟨_, _, H, ρ, rfl, hm v t, .mk_tuple (.cons (.int _ _) (.cons (.iface _ (.hole _)) (.nil ρ))), hr.below hb, since_of_below hb⟩

theorem fi_sound {E : Env} {g gT : Nat} {tab : List Int} (hok : XOk E.P g (.formatInt gT tab)) {args : List V} {H : Heap} {K : V → Heap → Prop} (hk : fiRun gT tab args H K) {ρ : Ren} {w : World} {as : Array Value}
    (hr : HR ρ H w) (ha : VRs ρ args as.toList) : (callFunc g as).run E.P w = .ok (.enter g as) w ∧ Calls E.P g as w (CallPost H ρ w K) := by
  obtain ⟨ho, h1⟩ := hok
  refine ⟨ho as w, ?_⟩
  unfold fiRun at hk
  split at hk
  rotate_left
  · exact hk.elim
  rename_i n
  obtain ⟨hn, ⟨e, ro, hg⟩, hm⟩ := hk
  have hT := hr.gl _ hn.2.2
  obtain ⟨x1, r1, hr1, hx1, hrest⟩ := ha.of_cons
  obtain ⟨x2, r2, hr2, hx2, hrest2⟩ := hrest.of_cons
  have hr4 := hrest2.of_nil
  subst hr4; subst hr2
  obtain rfl : as = #[x1, x2] := by apply Array.ext'; rw [hr1]
  have q1 := hx1.int_eq
  have q2 := hx2.int_eq
  subst q1; subst q2
  obtain ⟨b, hb, cs', fz, hh, hv, -⟩ := hr.obj gT _ hg
  rw [hT] at hb
  cases hb
  have hcs : cs' = (tab.map fun z => Value.int .u64 z).toArray := by
    apply Array.ext'
    rw [List.toList_toArray]
    apply List.ext_getElem?
    intro i
    have hlen := hv.1
    rw [List.length_map] at hlen
    by_cases hi : i < tab.length
    · have hx : (tab.map fun z => V.int .u64 z)[i]? = some (.int .u64 tab[i]) := by rw [List.getElem?_map, List.getElem?_eq_getElem hi]; rfl
      have hy : cs'.toList[i]? = some (cs'.toList[i]'(by omega)) := List.getElem?_eq_getElem _
      have := (hv.2 i _ _ hx hy).int_eq
      rw [hy, this, List.getElem?_map, List.getElem?_eq_getElem hi]; rfl
    · rw [List.getElem?_eq_none (by omega), List.getElem?_eq_none (by simp; omega)]
  rw [hcs] at hh
  refine (h1 n w e fz hn.1 hn.2.1 hh).mono ?_
  rintro x w' ⟨rfl, hb⟩
  exact ⟨_, _, H, ρ, rfl, hm, .str _, hr.below hb, since_of_below hb⟩

theorem ib_sound {E : Env} {g : Nat} (hok : XOk E.P g .indexByte) {args : List V} {H : Heap} {K : V → Heap → Prop} (hk : ibRun args H K) {ρ : Ren} {w : World} {as : Array Value}
    (hr : HR ρ H w) (ha : VRs ρ args as.toList) : ∃ v v' w' H' ρ', (callFunc g as).run E.P w = .ok (.value v') w' ∧ K v H' ∧ VR ρ' v v' ∧ HR ρ' H' w' ∧ Since H ρ w H' ρ' w' := by
  obtain ⟨fn, h1, h2, h3, h4, h5⟩ := hok
  unfold ibRun at hk
  split at hk
  rotate_left
  · exact hk.elim
  rename_i s c
  obtain ⟨x1, r1, hr1, hx1, hrest⟩ := ha.of_cons
  obtain ⟨x2, r2, hr2, hx2, hrest2⟩ := hrest.of_cons
  have hr3 := hrest2.of_nil
  subst hr3
  subst hr2
  obtain rfl : as = #[x1, x2] := by apply Array.ext'; rw [hr1]
  have e1 := hx1.str_eq
  have e2 := hx2.int_eq
  subst e1
  subst e2
  have hrun : (Extern.BytealgIndexByte.indexByte #[.string s, .int .u8 c]).run E.P w = .ok (.int .i64 (idxB s c.toNat.toUInt8)) w := by
    change Sem.run E.P (α := Value) (do
      let b ← Extern.Bytes.bytesOf (.string s)
      let c ← Extern.Bytes.asByte (.int .u8 c)
      match (List.range b.size).find? fun i => b[i]! == c with
      | some i => pure (goInt i)
      | none => pure (goInt (-1))) w = _
    simp only [Extern.Bytes.bytesOf, Extern.Bytes.asByte, idxB, Sem.run_pure, Sem.run_bind, Result.andThen]
    cases hf : (List.range s.size).find? fun i => s[i]! == c.toNat.toUInt8 <;> simp [hf] <;> rfl
  exact ⟨.int .i64 _, .int .i64 _, w, H, ρ, by rw [run_callFunc_extern h1 h2 h3 h4 h5, hrun]; rfl, hk, .int _ _, hr, .refl H ρ w⟩

theorem ext_sound {E : Env} {l : List (Nat × XK)} (he : E.ext = extTab E.P l) (hl : ∀ g k, look l g = some k → XOk E.P g k) : ExtSound E := by
  intro g x hx args H K hk ρ w as hr ha
  rw [he, extTab] at hx
  cases hm : look l g with
  | none => rw [hm] at hx; cases hx
  | some k =>
    rw [hm] at hx
    simp only [Option.map_some, Option.some.injEq] at hx
    subst hx
    have hok := hl g k hm
    cases k with
    | copyCheck u => exact .inr (cc_sound hok hk hr ha)
    | bString eb => exact .inr (bs_sound hok hk hr ha)
    | indexByte => exact .inl (ib_sound hok hk hr ha)
    | parseInt gS gR => exact .inr (pi_sound hok hk hr ha)
    | formatInt gT tab => exact .inr (fi_sound hok hk hr ha)
    | overlaps =>
    obtain ⟨fn, tS, tR, e, h1, h2, h3, h4, h5, h6, h7⟩ := hok
    obtain ⟨inf, h7⟩ := Option.isSome_iff_exists.1 h7
    left
    obtain ⟨i, o, la, ca, j, o', lb, cb, rfl, hij, hla, hlb, ⟨e1, cs1, hg1, ho⟩, ⟨e2, cs2, ro, hg2⟩, hkt, hkf⟩ := ovRun_inv hk
    obtain ⟨x1, r1, hr1, hx1, hrest⟩ := ha.of_cons
    obtain ⟨x2, r2, hr2, hx2, hrest2⟩ := hrest.of_cons
    have hr3 := hrest2.of_nil
    subst hr3
    subst hr2
    obtain rfl : as = #[x1, x2] := by
      apply Array.ext'
      rw [hr1]
    obtain ⟨b1, hb1, cs1', fz1, hc1, hv1, _, hfz⟩ := hr.obj i _ hg1
    obtain ⟨b2, hb2, cs2', fz2, hc2, _⟩ := hr.obj j _ hg2
    have hne : b1 ≠ b2 := by
      intro hb
      subst hb
      exact hij (hr.inj i j _ _ b1 hg1 hg2 rfl hb1 hb2)
    rcases hx1.slice_eq with ⟨b, hb, rfl⟩ | ⟨h0, _⟩
    rotate_left
    · omega
    rcases hx2.slice_eq with ⟨b', hb', rfl⟩ | ⟨h0, _⟩
    rotate_left
    · omega
    rw [hb1] at hb
    rw [hb2] at hb'
    cases hb
    cases hb'
    have hlen : cs1'.size = cs1.length := by have := hv1.1; simp at this; omega
    have hfa : w.frozen? ⟨b1, o, none⟩ = false := by
      simp only [World.frozen?, hc1]
      rcases hfz rfl with h | h
      · rw [h]
        by_cases hh : fz1.2 ≤ o
        · have : ¬ o < fz1.2 := by omega
          simp [this]
        · simp [hh]
      · have : ¬ fz1.1 ≤ o := by omega
        simp [this]
    obtain ⟨r, w', hrun, hw⟩ := run_overlaps (P := E.P) (w := w) (tR := tR) h6 (size := inf.size) (fun w => by simp [sizeOf, typeInfo, h7]) (a := ⟨b1, o, none⟩) (b := ⟨b2, o', none⟩) (la := la) (ca := ca) (lb := lb) (cb := cb) hne
      (tA := e1) (kA := cs1'.size) (tB := e2) (kB := cs2'.size) (by simp [World.shape?, hc1]) (by simp [World.shape?, hc2]) hfa
    have hK : K (.bool r) H := by cases r <;> assumption
    have hheap : w'.heap = w.heap := by rcases hw with rfl | rfl <;> rfl
    refine ⟨.bool r, .bool r, w', H, ρ, ?_, hK, .bool _, hr.heap hheap, ?_⟩
    · rw [run_callFunc_extern h1 h2 h3 h4 h5, hrun]; rfl
    · rcases hw with rfl | rfl
      · exact .refl ..
      · exact ⟨.refl ρ, fun _ _ _ => rfl, fun _ h => .inl h, fun _ h => .inl h, Nat.le_refl _, rfl, rfl, rfl⟩

end Go.Am
