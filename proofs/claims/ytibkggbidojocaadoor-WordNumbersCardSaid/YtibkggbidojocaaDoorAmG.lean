/- What the listed variables hold, as the abstract machine has it. -/
import Derived.Test.YtibkggbidojocaaDoorWordU
import Derived.Test.YtibkggbidojocaaDoorAmLaw
import Derived.Test.YtibkggbidojocaaDoorRows
import Derived.MakeChecks
import Derived.LaidHandle
import Derived.LaidMore
import Derived.LaidLaws
import Derived.Stop.LaidErr
import Derived.Lib.LaidTab
namespace Go.Proofs.YtibkggbidojocaaDoor
open Go.Am Go.Lib Go.ChangeShapes Go.WideShapes Go.ChangeAt
set_option maxRecDepth 100000
set_option linter.unusedSimpArgs false
set_option linter.unusedVariables false

theorem iface_of {H : Type} {enc : TypeId × Value → H} {P : Program} {w : World} {base : Nat} {sp : Nat → Bool} {held : Bool} {fuel : Nat} {t : TypeId} {ms : Array (String × TypeId)} {cs : List Value} {nm : String} {d : DataW H} {p : List MemPlace}
    (ht : P.underlying t = some (.interface ms)) (h : DataW.trod enc P w base sp held fuel t cs = some (.iface nm d, p)) : ∃ u v, cs = [.iface u v] := by
  cases fuel with
  | zero => simp [DataW.trod] at h
  | succ fuel =>
    match cs, h with
    | [], h => simp [DataW.trod, ht] at h
    | [c], h => cases c <;> simp [DataW.trod, ht] at h <;> first | exact ⟨_, _, rfl⟩ | skip
    | _ :: _ :: _, h => simp [DataW.trod, ht] at h

theorem gT : Tryd.prog.globalNamed "internal/strconv.uint64pow10" = some 2 := by kernel_rfl
theorem gS : Tryd.prog.globalNamed "strconv.ErrSyntax" = some 0 := by kernel_rfl
theorem gR : Tryd.prog.globalNamed "strconv.ErrRange" = some 1 := by kernel_rfl

theorem var_heap {P : Program} {W : World} {n : String} {g : Nat} {cs : Array Value} (hg : P.globalNamed n = some g) (hv : W.var? P n = some cs) : ∃ e fz, W.heap[g]? = some (.cells cs e fz) := by
  unfold World.var? at hv
  rw [hg] at hv
  simp only [Option.bind_some] at hv
  split at hv
  · rename_i cs' e fz hh
    cases hv
    exact ⟨e, fz, hh⟩
  · cases hv

/-- An error's variable, listed first. -/
theorem err_head {P : Program} {W : World} {n nm : String} {d : DataW Unit} {rest : List (String × DataW Unit)} {g : Nat} {t : TypeId} {ms : Array (String × TypeId)}
    (hg : P.globalNamed n = some g) (hty : (P.globals[g]?).map (·.type) = some t) (ht : P.underlying t = some (.interface ms)) (h : laidMet P ((n, .iface nm d) :: rest) W) :
    ∃ u v e fz, W.heap[g]? = some (.cells #[.iface u v] e fz) := by
  obtain ⟨ps, ⟨g', t', cs, fuel, p, q, hg', ht', hvar, hd, _, _⟩, _⟩ := h
  obtain rfl := Option.some.inj (hg.symm.trans hg')
  obtain rfl := Option.some.inj (hty.symm.trans ht')
  obtain ⟨u, v, hcs⟩ := iface_of ht hd
  obtain ⟨e, fz, hh⟩ := var_heap hg hvar
  refine ⟨u, v, e, fz, ?_⟩
  rw [hh]
  congr 2
  apply Array.ext'
  rw [hcs]

theorem heap_if {W : World} {g : Nat} {u : TypeId} {v : Value} {e : TypeId} {fz : Nat × Nat} (h : W.heap[g]? = some (.cells #[.iface u v] e fz)) : (heapOf W).get g = some (.cells e (.iface u .hole :: []) true) := by
  simp only [heapOf, h]
  rfl

theorem lt_heap {W : World} {g : Nat} {o : Go.Obj} (h : W.heap[g]? = some o) : g < W.heap.size := (Array.getElem?_eq_some_iff.1 h).1

theorem glob_of {W : World} {laid : List (String × DataW Unit)} (hl : laid = Rows.wordTextsRow.laid) (h : laidMetH Tryd.prog laid W) : GL (heapOf W) ∧ ∀ g ∈ globs, g < W.heap.size := by
  subst hl
  rw [MakeChecks.laidMetH_plain _ _ _ (by kernel_rfl)] at h
  have h2 : laidMet Tryd.prog (("internal/strconv.uint64pow10", tabData .u64 pow10Tab) :: ("strconv.ErrRange", Rows.laid_strconv_ErrRange) :: ("strconv.ErrSyntax", Rows.laid_strconv_ErrSyntax) :: []) W := by
    have := h.tail.tail
    have e : (Rows.laid_internal_strconv_uint64pow10 : DataW Unit) = tabData .u64 pow10Tab := by kernel_rfl
    rw [← e]
    exact this
  have ht := tabIs_of_head gT (t := 76) (e := 30) (n := 20) (by kernel_rfl) (by kernel_rfl) (by kernel_rfl) (by kernel_rfl) (by kernel_rfl) h2
  obtain ⟨u1, v1, e1, z1, hR⟩ := err_head (t := 32) gR (by kernel_rfl) Tryd.underlying32 h2.tail
  obtain ⟨u0, v0, e0, z0, hS⟩ := err_head (t := 32) gS (by kernel_rfl) Tryd.underlying32 h2.tail.tail
  obtain ⟨e2, z2, hT⟩ := var_heap gT ht
  refine ⟨⟨⟨_, _, _, heap_if hS⟩, ⟨_, _, _, heap_if hR⟩, ⟨e2, ?_⟩⟩, ?_⟩
  · simp only [heapOf, hT, List.map_map]
    rfl
  · intro g hg
    have : g = 0 ∨ g = 1 ∨ g = 2 := by
      revert hg
      show g ∈ [0, 1, 2] → _
      simp
    rcases this with rfl | rfl | rfl
    · exact lt_heap hS
    · exact lt_heap hR
    · exact lt_heap hT

end Go.Proofs.YtibkggbidojocaaDoor
