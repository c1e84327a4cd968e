/- From a statement's inputs to the abstract machine, and back. -/
import Derived.Test.YtibkggbidojocaaDoorAmMain
import Derived.Below
import Derived.ChangeSame
import Derived.WideKeyArgs
import Derived.OpenShut
import Derived.ProofKit
namespace Go.Am
set_option linter.unusedSimpArgs false
set_option linter.unusedVariables false
set_option linter.unusedSectionVars false
open Go.ChangeShapes Go.WideShapes Go.RowKit

def toV (W : World) : Value → V
  | .bool b => .bool b
  | .int k n => .int k n
  | .string s => .str s
  | .pointer none => .ptr none
  | .pointer (some ⟨b, o, none⟩) => if b < W.heap.size then .ptr (some (b, o)) else .hole
  | .slice none n c => .slice none n c
  | .slice (some a) 0 0 => .slice (some (a.block, a.off)) 0 0
  | .slice (some ⟨b, o, none⟩) n c => if b < W.heap.size then .slice (some (b, o)) n c else .hole
  | .map none => .map none
  | .nilFunc => .nilFunc
  | .nilIface => .nilIface
  | .iface t _ => .iface t .hole
  | _ => .hole

def toA (W : World) : Value → V
  | .agg cs => if ∀ c ∈ cs.toList.map (toV W), c.one = true then .agg (cs.toList.map (toV W)) else .hole
  | v => toV W v

def idR (W : World) : Ren := fun b => if b < W.heap.size then some b else none

def heapOf (W : World) : Heap where
  get := fun b => match W.heap[b]? with
    | some (.cells cs e _) => some (.cells e (cs.toList.map (toV W)) true)
    | _ => none
  next := W.heap.size

theorem idR_lt {W : World} {b : Nat} (h : b < W.heap.size) : idR W b = some b := if_pos h

theorem toV_rel (W : World) (x : Value) : VR (idR W) (toV W x) x := by
  unfold toV
  split
  · exact .bool _
  · exact .int _ _
  · exact .str _
  · exact .ptrNil
  · split
    · rename_i h; exact .ptr (idR_lt h)
    · exact .hole _
  · exact .sliceNil _ _
  · exact .slice0 _ _
  · split
    · rename_i h; exact .slice _ _ (idR_lt h)
    · exact .hole _
  · exact .mapNil
  · exact .nilFunc
  · exact .nilIface
  · exact .iface _ (.hole _)
  · exact .hole _

theorem toVs_rel (W : World) (l : List Value) : VRs (idR W) (l.map (toV W)) l := by
  refine ⟨by simp, fun i x y hx hy => ?_⟩
  rw [List.getElem?_map, hy, Option.map_some, Option.some.injEq] at hx
  subst hx
  exact toV_rel W y

theorem toA_rel (W : World) (x : Value) : VR (idR W) (toA W x) x := by
  unfold toA
  split
  · split
    · rename_i cs h; exact .mk_agg h (toVs_rel W _)
    · exact .hole _
  · exact toV_rel W _

theorem toAs_rel (W : World) (l : List Value) : VRs (idR W) (l.map (toA W)) l := by
  refine ⟨by simp, fun i x y hx hy => ?_⟩
  rw [List.getElem?_map, hy, Option.map_some, Option.some.injEq] at hx
  subst hx
  exact toA_rel W y

theorem heapOf_get {W : World} {b : Nat} {o : Obj} (h : (heapOf W).get b = some o) : ∃ cs e fz, W.heap[b]? = some (.cells cs e fz) ∧ o = .cells e (cs.toList.map (toV W)) true := by
  simp only [heapOf] at h
  split at h
  · rename_i cs e fz hb
    cases h
    exact ⟨cs, e, fz, hb, rfl⟩
  · cases h

theorem heapOf_HR (W : World) (hgl : ∀ g ∈ globs, g < W.heap.size) : HR (idR W) (heapOf W) W where
  gl := fun g hg => idR_lt (hgl g hg)
  obj := fun b o h => by
    obtain ⟨cs, e, fz, hb, rfl⟩ := heapOf_get h
    have hlt : b < W.heap.size := by
      rcases Nat.lt_or_ge b W.heap.size with h | h
      · exact h
      · rw [Array.getElem?_eq_none h] at hb; cases hb
    refine ⟨b, idR_lt hlt, cs, fz, hb, toVs_rel W _, ?_, ?_⟩
    · intro h; cases h
    · intro h; cases h
  inj := fun id id' o o' b h _ hr _ _ => by
    obtain ⟨cs, e, fz, hb, rfl⟩ := heapOf_get h
    cases hr
  lt := fun id b h => by
    unfold idR at h
    split at h
    · rename_i hlt; cases h; exact ⟨hlt, hlt⟩
    · cases h

theorem since_below {W W' : World} {H' : Heap} {ρ' : Ren} (h : Since (heapOf W) (idR W) W H' ρ' W') : Below W.heap.size W W' where
  os := h.os
  tape := h.tape
  output := h.output
  size := h.size
  block := fun k hk => h.frame k hk (by
    rintro ⟨id, o, h1, h2, _⟩
    obtain ⟨cs, e, fz, hb, rfl⟩ := heapOf_get h1
    cases h2)

/-- Cells that read as data of a type, as the abstract machine has them. -/
def tyC (P : Program) (H : Heap) : Nat → TypeId → List V → Prop
  | 0, _, _ => False
  | n + 1, t, cs => match P.underlying t with
    | some .bool => ∃ b, cs = [.bool b]
    | some (.int k) => ∃ x, cs = [.int k x] ∧ k.min ≤ x ∧ x ≤ k.max
    | some .string => ∃ s, cs = [.str s] ∧ s.size ≤ maxLen
    | some (.slice e) => 0 < P.cellsOf e → ∃ p len cap, cs = [.slice p len cap] ∧ len ≤ cap ∧ cap ≤ maxLen ∧ (p = none → cap = 0) ∧
        ∀ i, i < cap → ∃ id off, p = some (id, off) ∧ id < H.next ∧ H.inb id (off + i * P.cellsOf e) (P.cellsOf e) = true ∧ tyC P H n e (H.sub id (off + i * P.cellsOf e) (P.cellsOf e))
    | some (.struct fs) => cs.length = P.cellsOf t ∧ ∀ f ∈ fs.toList, tyC P H n f.type ((cs.drop f.offset).take (P.cellsOf f.type))
    | some (.array m e) => cs.length = P.cellsOf t ∧ ∀ i, i < m → tyC P H n e ((cs.drop (i * P.cellsOf e)).take (P.cellsOf e))
    | _ => True

theorem mapM_mem {α β : Type} {f : α → Option β} : ∀ {l : List α} {r : List β}, l.mapM f = some r → ∀ x ∈ l, ∃ y ∈ r, f x = some y
  | [], r, _, x, hx => by cases hx
  | a :: l, r, h, x, hx => by
    rw [List.mapM_cons] at h
    cases ha : f a with
    | none => simp [ha] at h
    | some y =>
      cases hl : l.mapM f with
      | none => simp [ha, hl] at h
      | some m =>
        simp [ha, hl] at h
        subst h
        rcases List.mem_cons.1 hx with rfl | hx
        · exact ⟨y, List.mem_cons_self .., ha⟩
        · obtain ⟨z, h1, h2⟩ := mapM_mem hl x hx
          exact ⟨z, List.mem_cons_of_mem _ h1, h2⟩

theorem mapM_all {α β : Type} {f : α → Option β} : ∀ {l : List α} {r : List β}, l.mapM f = some r → r.length = l.length ∧ ∀ (i : Nat) x, l[i]? = some x → ∃ y, r[i]? = some y ∧ f x = some y
  | [], r, h => by simp at h; subst h; exact ⟨rfl, fun i x hx => by simp at hx⟩
  | a :: l, r, h => by
    rw [List.mapM_cons] at h
    cases ha : f a with
    | none => simp [ha] at h
    | some y =>
      cases hl : l.mapM f with
      | none => simp [ha, hl] at h
      | some m =>
        simp [ha, hl] at h
        subst h
        obtain ⟨h1, h2⟩ := mapM_all hl
        refine ⟨by simp [h1], fun i x hx => ?_⟩
        cases i with
        | zero => simp at hx; subst hx; exact ⟨y, rfl, ha⟩
        | succ i => exact h2 i x (by simpa using hx)

theorem cells_sub {W : World} {base n : Nat} {a : Addr} {cs : List Value} (h : W.cells? base a n = some cs) (hn : 0 < n) :
    a.spot = none ∧ a.block < W.heap.size ∧ (heapOf W).inb a.block a.off n = true ∧ (heapOf W).sub a.block a.off n = cs.map (toV W) := by
  unfold World.cells? at h
  split at h
  rotate_left
  · cases h
  obtain ⟨hlen, hall⟩ := mapM_all h
  simp only [List.length_range] at hlen
  have hcell : ∀ i, i < n → ∃ y, cs[i]? = some y ∧ W.cell? (a.add i) = some y := fun i hi => hall i i (by simp [hi])
  obtain ⟨y0, _, h0⟩ := hcell 0 hn
  have hobj : ∃ cs' e fz, W.heap[a.block]? = some (.cells cs' e fz) ∧ a.spot = none := by
    simp only [World.cell?, Addr.add] at h0
    revert h0
    cases hb : W.heap[a.block]? with
    | none => intro h0; simp [hb] at h0
    | some o =>
      cases o with
      | cells cs' e fz =>
        intro h0
        cases hsp : a.spot with
        | none => exact ⟨cs', e, fz, rfl, rfl⟩
        | some s => simp [hb, hsp] at h0
      | _ => intro h0; simp [hb] at h0
  obtain ⟨cs', e, fz, hb, hsp⟩ := hobj
  have hlt : a.block < W.heap.size := by
    rcases Nat.lt_or_ge a.block W.heap.size with h | h
    · exact h
    · rw [Array.getElem?_eq_none h] at hb; cases hb
  have hget : (heapOf W).get a.block = some (.cells e (cs'.toList.map (toV W)) true) := by simp only [heapOf, hb]
  have hat : ∀ i, i < n → ∃ y, cs[i]? = some y ∧ cs'[a.off + i]? = some y := by
    intro i hi
    obtain ⟨y, h1, h2⟩ := hcell i hi
    refine ⟨y, h1, ?_⟩
    have : a.add i = ⟨a.block, a.off + i, none⟩ := by
      obtain ⟨b, o, s⟩ := a
      cases hsp
      exact add_addr _ _ _
    rw [this, cell_at hb] at h2
    exact h2
  have hle : a.off + n ≤ cs'.size := by
    obtain ⟨y, _, h2⟩ := hat (n - 1) (by omega)
    rcases Nat.lt_or_ge (a.off + (n - 1)) cs'.size with h | h
    · omega
    · rw [Array.getElem?_eq_none h] at h2; cases h2
  refine ⟨hsp, hlt, by simp [Heap.inb, hget]; omega, ?_⟩
  simp only [Heap.sub, Heap.cs, hget]
  apply List.ext_getElem?
  intro i
  rw [List.getElem?_take, List.getElem?_drop]
  by_cases hi : i < n
  · rw [if_pos hi]
    obtain ⟨y, h1, h2⟩ := hat i hi
    simp [h1, h2]
  · rw [if_neg hi]
    rw [List.getElem?_eq_none]
    simp; omega

section
variable {H : Type} {enc : TypeId × Value → H} {P : Program} {W : World} {base : Nat} {held : Bool}

theorem lit_range {k : IntKind} {n : Int} (h : (Lit.int k n).wf = true) : k.min ≤ n ∧ n ≤ k.max := by
  simpa only [Lit.wf, Bool.and_eq_true, decide_eq_true_eq] using h

theorem toV_slice {a : Addr} {n c : Nat} (hs : a.spot = none) (hb : a.block < W.heap.size) : toV W (.slice (some a) n c) = .slice (some (a.block, a.off)) n c := by
  obtain ⟨b, o, s⟩ := a
  simp only at hs hb
  subst hs
  cases n with
  | zero => cases c with
    | zero => rfl
    | succ c => exact if_pos hb
  | succ n => exact if_pos hb

theorem trod_ty : ∀ (fuel : Nat) (t : TypeId) (cs : List Value) (d : DataW H) (ps : List MemPlace),
    DataW.trod enc P W base (fun _ => true) held fuel t cs = some (d, ps) → tyC P (heapOf W) fuel t (cs.map (toV W)) := by
  intro fuel
  induction fuel with
  | zero => intro t cs d ps h; simp [DataW.trod] at h
  | succ n ih =>
    intro t cs d ps h
    unfold tyC
    split
    · rename_i hu
      obtain ⟨b, rfl, _⟩ := DataW.trod_bool hu h
      exact ⟨b, rfl⟩
    · rename_i k hu
      obtain ⟨x, rfl, _, hw⟩ := DataW.trod_int hu h
      exact ⟨x, rfl, lit_range hw⟩
    · rename_i hu
      obtain ⟨s, rfl, _, hs⟩ := DataW.trod_string hu h
      exact ⟨s, rfl, hs⟩
    · rename_i e hu
      intro hpos
      rcases DataW.trod_slice hu h with ⟨rfl, _⟩ | ⟨a, len, cap, elems, rest, m, hm, rfl, _, _, hle, hmax, hel, hE, hR, _⟩
      · exact ⟨none, 0, 0, rfl, Nat.le_refl _, Nat.zero_le _, fun _ => rfl, fun i hi => by omega⟩
      · cases hm
        obtain ⟨hrl, hR⟩ := hR rfl
        have hall : ∀ i, i < cap → ∃ cs' y, W.cells? base (a.add (i * P.cellsOf e)) (P.cellsOf e) = some cs' ∧ DataW.trod enc P W base (fun _ => true) held n e cs' = some y := by
          intro i hi
          by_cases hl : i < len
          · have h1 := hE i hl
            rw [List.getElem?_eq_getElem (by omega), Option.bind_eq_some_iff] at h1
            obtain ⟨cs', h1, h2⟩ := h1
            exact ⟨cs', _, h1, h2⟩
          · have h1 := hR (i - len) (by omega)
            rw [List.getElem?_eq_getElem (by omega), Option.bind_eq_some_iff, show len + (i - len) = i by omega] at h1
            obtain ⟨cs', h1, h2⟩ := h1
            exact ⟨cs', _, h1, h2⟩
        by_cases hc : cap = 0
        · subst hc
          have : len = 0 := by omega
          subst this
          refine ⟨some (a.block, a.off), 0, 0, ?_, Nat.le_refl _, Nat.zero_le _, (fun _ => rfl), fun i hi => by omega⟩
          obtain ⟨b, o, s⟩ := a
          cases s <;> rfl
        · obtain ⟨cs0, y0, h0, _⟩ := hall 0 (by omega)
          have hz : a.add (0 * P.cellsOf e) = a := by simp [Addr.add]
          rw [hz] at h0
          obtain ⟨hs, hb, _, _⟩ := cells_sub h0 hpos
          refine ⟨some (a.block, a.off), len, cap, by rw [List.map_cons, List.map_nil, toV_slice hs hb], hle, hmax, fun h => (by cases h), fun i hi => ?_⟩
          obtain ⟨cs', y, h1, h2⟩ := hall i hi
          have hadd : a.add (i * P.cellsOf e) = ⟨a.block, a.off + i * P.cellsOf e, none⟩ := by
            obtain ⟨b, o, s⟩ := a
            cases hs
            exact add_addr _ _ _
          rw [hadd] at h1
          obtain ⟨_, _, h3, h4⟩ := cells_sub h1 hpos
          refine ⟨a.block, a.off, rfl, hb, h3, ?_⟩
          rw [h4]
          exact ih e cs' y.1 y.2 h2
    · rename_i fs hu
      obtain ⟨xs, m, hm, _, hl, hxl, hF⟩ := DataW.trod_struct hu h
      cases hm
      refine ⟨by simpa using hl, fun f hf => ?_⟩
      obtain ⟨i, hi, hfi⟩ := List.getElem_of_mem hf
      have hi' : fs[i]? = some f := by
        rw [← Array.getElem?_toList, List.getElem?_eq_getElem hi, hfi]
      have h1 := hF i f hi'
      have hix : i < xs.length := by rw [hxl]; simpa using hi
      rw [List.getElem?_eq_getElem hix] at h1
      have := ih _ _ _ _ h1
      rw [List.map_take, List.map_drop] at this
      exact this
    · rename_i m e hu
      obtain ⟨xs, m', hm, _, hl, hxl, hF⟩ := DataW.trod_array hu h
      cases hm
      refine ⟨by simpa using hl, fun i hi => ?_⟩
      have h1 := hF i hi
      rw [List.getElem?_eq_getElem (by omega)] at h1
      have := ih _ _ _ _ h1
      rw [List.map_take, List.map_drop] at this
      exact this
    · trivial

/-- An input that reads as data of a type. -/
def Ty (P : Program) (H : Heap) (t : TypeId) (v : V) : Prop := ∃ fuel, tyC P H fuel t v.cells

theorem toA_agg {cs : Array Value} (h : ∀ c ∈ cs.toList.map (toV W), c.one = true) : toA W (.agg cs) = .agg (cs.toList.map (toV W)) := if_pos h

theorem toA_one {x : Value} (h : ∀ cs, x ≠ .agg cs) : toA W x = toV W x := by
  unfold toA
  split
  · exact absurd rfl (h _)
  · rfl

theorem toV_not_agg (x : Value) : ∀ cs, toV W x ≠ .agg cs := by
  intro cs h
  have := toV_rel W x
  rw [h] at this
  unfold toV at h
  split at h <;> first | cases h | (split at h <;> cases h)

end

section
variable {H : Type} {enc : TypeId × Value → H} {P : Program}
theorem post_of_below {f : Func} {s : ChangeSpec} {apart fresh handsOn again : Bool} {W W' : World} {args : Array Value} {v : Value} {ds gs : List (DataW H)} {before pa pv : List MemPlace}
    (hW : DataW.Whole enc P f.params.toList s.vars apart W args.toList ds gs before)
    (hres : ∀ (b : Nat) (sp : Nat → Bool) (hd : Bool), DataW.TrodAll enc P W' b sp hd f.resultTypes.toList (v.resultList f.resultTypes.size) (s.fn H (ds ++ gs)).results [])
    (hargs : ∀ sp : Nat → Bool, (∀ p ∈ before, sp p.block = true) → DataW.TrodAll enc P W' 0 sp true f.params.toList args.toList (s.fn H (ds ++ gs)).args pa)
    (hvars : ∀ sp : Nat → Bool, (∀ p ∈ before, sp p.block = true) → DataW.TrodVars enc P W' sp s.vars (s.fn H (ds ++ gs)).vars pv)
    (hps : before = pa ++ pv) (hb : Below W.heap.size W W')
    (hok : ∀ (j : Nat) (t : TypeId) (r : Value), f.resultTypes[j]? = some t → (v.resultList f.resultTypes.size)[j]? = some r → Value.okWide P W' .any 0 t r) :
    s.post enc P f apart fresh handsOn again W args v W' := by
  have hlt : ∀ p ∈ before, p.block < W.heap.size := fun p hp => hW.lt p hp
  have hold : ∀ p ∈ before, (fun b => decide (b < W.heap.size)) p.block = true := fun p hp => by simpa using hlt p hp
  refine ⟨ds, gs, before, [], pa, pv, hW, hres _ _ _, hargs _ hold, hvars _ hold, World.keptBut_mono (fun p hp => ⟨hp, ?_⟩) (hb.frame (· ∈ before)), fun _ => ?_⟩
  · rw [hps, List.mem_append] at hp
    exact Or.inr hp
  · obtain ⟨_, _, _, _, _, hz, hn⟩ := hW
    refine ⟨hok, _, _, ([] ++ pa) ++ pv, ⟨[] ++ pa, pv, trodAll_append (hargs _ (fun _ _ => rfl)) (hres _ _ _), hvars _ (fun _ _ => rfl), rfl, ?_, ?_⟩, ?_⟩
    · intro b off hp
      have hin : MemPlace.cell b off ∈ before := by rw [hps]; simpa using hp
      rw [hb.frozen (hlt _ hin)]
      exact hz b off hin
    · intro ha
      have := hn ha
      rw [hps] at this
      simpa using this
    · intro p hp _
      rw [hps]
      simpa using hp
end

/-- Plain cells: of each a head that one cell bears. -/
theorem fits_of {ks : List Kind} {cs : List V} (h : fits ks cs = true) : ∀ c ∈ cs, c.one = true := fits_one h

section
variable {H : Type} {enc : TypeId × Value → H} {P : Program} {W : World}

/-- The arguments read as data: so they do behind a call that turns nothing. -/
theorem trodAll_stays (hl : laidOutB P = true) {W' : World} (hb : Below W.heap.size W W') {sp : Nat → Bool} : ∀ {ts : List TypeId} {vs : List Value} {ds : List (DataW H)} {p : List MemPlace},
    (∀ t ∈ ts, P.readableRec t = true ∧ t < P.types.size) → (∀ x ∈ p, sp x.block = true) → (∀ x ∈ p, x.block < W.heap.size) →
    DataW.TrodAll enc P W 0 (fun _ => true) true ts vs ds p → DataW.TrodAll enc P W' 0 sp true ts vs ds p
  | [], vs, ds, p, _, _, _, h => by
    obtain ⟨rfl, rfl, rfl⟩ := trodAll_nil h
    exact trodAll_mk0
  | t :: ts, vs, ds, p, ht, hs, hlt, h => by
    obtain ⟨v, vs1, d, ds1, a, b, rfl, rfl, rfl, h1, h2⟩ := trodAll_cons h
    refine trodAll_cons_mk ?_ (trodAll_stays hl hb (fun u hu => ht u (List.mem_cons_of_mem _ hu)) (fun x hx => hs x (List.mem_append_right _ hx)) (fun x hx => hlt x (List.mem_append_right _ hx)) h2)
    refine WideElems.Trod_stays hl (ht t (List.mem_cons_self ..)).1 (ht t (List.mem_cons_self ..)).2 h1 (fun x hx => ?_) (fun x hx => hs x (List.mem_append_left _ hx))
    have hx' := hlt x (List.mem_append_left _ hx)
    cases x with
    | cell b o => exact hb.cell (p := ⟨b, o, none⟩) hx'
    | map b => exact hb.block b hx'

theorem row_of_trod {t : TypeId} {v : Value} {d : DataW H} {p : List MemPlace}
    (h : DataW.Trod enc P W 0 (fun _ => true) true t v d p) : ∃ n, tyC P (heapOf W) n t (v.cells.toList.map (toV W)) := by
  obtain ⟨n, hn⟩ := h
  exact ⟨n, trod_ty n t _ _ _ hn⟩

/-- A law whose call in the abstract machine answers true holds: its arguments read behind the call as they did. -/
theorem law_of_call {E : Env} (hX : ExtSound E) (hm : E.P.follows .mixedOrders = true) (hl : laidOutB E.P = true) {f : FuncId} {fn : Func} {s : ChangeSpec} {apart fresh handsOn again : Bool} {args : Array Value}
    {ds gs : List (DataW H)} {before : List MemPlace} {tb : TypeId} (hb : E.P.underlying tb = some .bool)
    (hpar : ∀ t ∈ fn.params.toList, E.P.readableRec t = true ∧ t < E.P.types.size) (hres : fn.resultTypes = #[tb]) (hv : s.vars = [])
    (hs : ∀ ds : List (DataW H), ds.length = fn.params.size → s.fn H ds = { results := [.lit (.bool true)], args := ds })
    (hW : DataW.Whole enc E.P fn.params.toList s.vars apart W args.toList ds gs before)
    (hc : (Run E).call f (args.toList.map (toA W)) (heapOf W) fun v _ => v = .bool true) (hgl : ∀ g ∈ globs, g < W.heap.size := by intro g hg; cases hg) :
    Calls E.P f args W fun e W' => ∃ v, e = .returned v ∧ s.post enc E.P fn apart fresh handsOn again W args v W' := by
  refine ((Run_sound hX hm).call _ _ _ _ hc (idR W) W args (heapOf_HR W hgl) (toAs_rel W _)).mono ?_
  rintro e W' ⟨v, v', H', ρ', rfl, rfl, hv', _, hsince⟩
  have hbl := since_below hsince
  refine ⟨v', rfl, ?_⟩
  rw [hv'.bool_eq]
  have hW0 := hW
  obtain ⟨p, q, hA, hV, hpq, hfz, hnd⟩ := hW
  rw [hv] at hV
  obtain ⟨rfl, rfl⟩ := trodVars_none hV
  simp only [List.append_nil] at hpq
  subst hpq
  have hlen : ds.length = fn.params.size := by
    have key : ∀ {ts : List TypeId} {vs : List Value} {ds : List (DataW H)} {p : List MemPlace}, DataW.TrodAll enc E.P W 0 (fun _ => true) true ts vs ds p → ds.length = ts.length := by
      intro ts
      induction ts with
      | nil => intro vs ds p h; obtain ⟨_, rfl, _⟩ := trodAll_nil h; rfl
      | cons t ts ih =>
        intro vs ds p h
        obtain ⟨v, vs1, d, ds1, a, b, rfl, rfl, rfl, _, h2⟩ := trodAll_cons h
        simp [ih h2]
    simpa using key hA
  have hsp := hs ds hlen
  have hlt : ∀ x ∈ before, x.block < W.heap.size := fun x hx => hW0.lt x hx
  refine post_of_below (pa := before) (pv := []) hW0 (fun b sp hd => ?_) (fun sp hsp' => ?_) (fun sp _ => ?_) (by simp) hbl ?_
  · rw [List.append_nil, hsp, hres]
    exact trodAll_cons_mk (p := []) (p' := []) (shut_bool hb true) trodAll_mk0
  · rw [List.append_nil, hsp]
    exact trodAll_stays hl hbl hpar hsp' hlt hA
  · rw [List.append_nil, hsp, hv]
    rfl
  · exact ok_one hres rfl (okWide_bool_mk hb true)

theorem okWide_agg {t : TypeId} {d : TypeDesc} {r : Reach} {base : Nat} {cs : Array Value} (hu : P.underlying t = some d) (hd : aggD d = false) (h : Value.okWide P W r base t (.agg cs)) : False := by
  cases d <;> simp [aggD] at hd <;> simp [Value.okWide, hu, Cell.okWide, Cell.ok] at h

theorem arg_cells {t : TypeId} {d : TypeDesc} {r : Reach} {base : Nat} {v : Value} (hu : P.underlying t = some d) (hd : aggD d = false) (h : Value.okWide P W r base t v) :
    v.cells.toList.map (toV W) = [toA W v] := by
  have hn : ∀ cs, v ≠ .agg cs := by rintro cs rfl; exact okWide_agg hu hd h
  rw [toA_one hn]
  cases v <;> first | rfl | exact absurd rfl (hn _)

variable {r : Reach} {base : Nat} {v : Value} {d : DataW H} {p : List MemPlace} {t : TypeId}

theorem arg_int {k : IntKind} (hu : P.underlying t = some (.int k)) (hval : Value.okWide P W r base t v) (h : DataW.Trod enc P W 0 (fun _ => true) true t v d p) :
    ∃ x, toA W v = .int k x ∧ k.min ≤ x ∧ x ≤ k.max := by
  obtain ⟨n, hn⟩ := row_of_trod h
  rw [arg_cells hu rfl hval] at hn
  cases n with
  | zero => exact hn.elim
  | succ n =>
    simp only [tyC, hu] at hn
    obtain ⟨x, hx, hr⟩ := hn
    exact ⟨x, by simpa using hx, hr⟩

theorem arg_bool (hu : P.underlying t = some .bool) (hval : Value.okWide P W r base t v) (h : DataW.Trod enc P W 0 (fun _ => true) true t v d p) : ∃ b, toA W v = .bool b := by
  obtain ⟨n, hn⟩ := row_of_trod h
  rw [arg_cells hu rfl hval] at hn
  cases n with
  | zero => exact hn.elim
  | succ n =>
    simp only [tyC, hu] at hn
    obtain ⟨x, hx⟩ := hn
    exact ⟨x, by simpa using hx⟩

theorem arg_string (hu : P.underlying t = some .string) (hval : Value.okWide P W r base t v) (h : DataW.Trod enc P W 0 (fun _ => true) true t v d p) : ∃ b, toA W v = .str b ∧ b.size ≤ maxLen := by
  obtain ⟨n, hn⟩ := row_of_trod h
  rw [arg_cells hu rfl hval] at hn
  cases n with
  | zero => exact hn.elim
  | succ n =>
    simp only [tyC, hu] at hn
    obtain ⟨x, hx, hr⟩ := hn
    exact ⟨x, by simpa using hx, hr⟩

theorem arg_struct {fs : Array Field} (hu : P.underlying t = some (.struct fs)) (hval : Value.okWide P W r base t v) (h : DataW.Trod enc P W 0 (fun _ => true) true t v d p) :
    ∃ cs n, tyC P (heapOf W) n t cs ∧ ((∀ c ∈ cs, c.one = true) → toA W v = .agg cs) := by
  obtain ⟨n, hn⟩ := row_of_trod h
  simp only [Value.okWide, hu] at hval
  obtain ⟨cs, rfl, _⟩ := hval
  exact ⟨_, n, hn, fun h1 => toA_agg h1⟩

end
section
variable {P : Program} {H : Heap} {n : Nat} {t : TypeId} {x : V}

theorem ty_int {k : IntKind} (hu : P.underlying t = some (.int k)) (h : tyC P H n t [x]) : ∃ y, x = .int k y ∧ k.min ≤ y ∧ y ≤ k.max := by
  cases n with
  | zero => exact h.elim
  | succ n =>
    simp only [tyC, hu] at h
    obtain ⟨y, hy, hr⟩ := h
    exact ⟨y, by simpa using hy, hr⟩

theorem ty_bool (hu : P.underlying t = some .bool) (h : tyC P H n t [x]) : ∃ y, x = .bool y := by
  cases n with
  | zero => exact h.elim
  | succ n =>
    simp only [tyC, hu] at h
    obtain ⟨y, hy⟩ := h
    exact ⟨y, by simpa using hy⟩

theorem ty_string (hu : P.underlying t = some .string) (h : tyC P H n t [x]) : ∃ y, x = .str y ∧ y.size ≤ maxLen := by
  cases n with
  | zero => exact h.elim
  | succ n =>
    simp only [tyC, hu] at h
    obtain ⟨y, hy, hr⟩ := h
    exact ⟨y, by simpa using hy, hr⟩

/-- A slice whose elements are of that type. -/
def SlTy (P : Program) (H : Heap) (e : TypeId) (q : Option (Nat × Nat)) (len cap : Nat) : Prop :=
  len ≤ cap ∧ cap ≤ maxLen ∧ (q = none → cap = 0) ∧
    ∃ n, ∀ i, i < cap → ∃ id off, q = some (id, off) ∧ id < H.next ∧ H.inb id (off + i * P.cellsOf e) (P.cellsOf e) = true ∧ tyC P H n e (H.sub id (off + i * P.cellsOf e) (P.cellsOf e))

theorem ty_slice {e : TypeId} (hu : P.underlying t = some (.slice e)) (hpos : 0 < P.cellsOf e) (h : tyC P H n t [x]) : ∃ q len cap, x = .slice q len cap ∧ SlTy P H e q len cap := by
  cases n with
  | zero => exact h.elim
  | succ n =>
    simp only [tyC, hu] at h
    obtain ⟨q, len, cap, hx, h1, h2, h3, h4⟩ := h hpos
    exact ⟨q, len, cap, by simpa using hx, h1, h2, h3, n, h4⟩

theorem ty_struct {fs : Array Field} {cs : List V} (hu : P.underlying t = some (.struct fs)) (h : tyC P H n t cs) :
    cs.length = P.cellsOf t ∧ ∃ m, ∀ f ∈ fs.toList, tyC P H m f.type ((cs.drop f.offset).take (P.cellsOf f.type)) := by
  cases n with
  | zero => exact h.elim
  | succ n =>
    simp only [tyC, hu] at h
    exact ⟨h.1, n, h.2⟩

theorem ty_array {m : Nat} {e : TypeId} {cs : List V} (hu : P.underlying t = some (.array m e)) (h : tyC P H n t cs) :
    cs.length = P.cellsOf t ∧ ∃ k, ∀ i, i < m → tyC P H k e ((cs.drop (i * P.cellsOf e)).take (P.cellsOf e)) := by
  cases n with
  | zero => exact h.elim
  | succ n =>
    simp only [tyC, hu] at h
    exact ⟨h.1, n, h.2⟩

end
section
variable {H : Type} {enc : TypeId × Value → H} {P : Program} {W : World} {r : Reach} {base : Nat} {v : Value} {d : DataW H} {p : List MemPlace} {t : TypeId}
theorem arg_slice {e : TypeId} (hu : P.underlying t = some (.slice e)) (hpos : 0 < P.cellsOf e) (hval : Value.okWide P W r base t v) (h : DataW.Trod enc P W 0 (fun _ => true) true t v d p) :
    ∃ q len cap, toA W v = .slice q len cap ∧ SlTy P (heapOf W) e q len cap := by
  obtain ⟨n, hn⟩ := row_of_trod h
  rw [arg_cells hu rfl hval] at hn
  exact ty_slice hu hpos hn
end
end Go.Am
