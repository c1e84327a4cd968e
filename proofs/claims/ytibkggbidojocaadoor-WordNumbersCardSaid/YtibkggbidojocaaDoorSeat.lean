/- Closed facts of this seat that every law's row wants. -/
import Derived.Test.YtibkggbidojocaaDoorAmEnv
import Derived.Test.YtibkggbidojocaaDoorAmLaw
namespace Go.Proofs.YtibkggbidojocaaDoor
open Go.Am
set_option maxRecDepth 100000
set_option linter.unusedSimpArgs false
set_option linter.unusedVariables false

theorem own : ownKnob Tryd.prog.godebug = none := by kernel_rfl
theorem laid : laidOutB Tryd.prog = true := by kernel_rfl
theorem par_ok {l : List TypeId} (h : (l.all fun t => Tryd.prog.readableRec t && Nat.blt t Tryd.prog.types.size) = true) : ∀ t ∈ l, env.P.readableRec t = true ∧ t < env.P.types.size := by
  intro t ht
  have h1 := List.all_eq_true.1 h t ht
  rw [Bool.and_eq_true] at h1
  exact ⟨h1.1, Nat.le_of_ble_eq_true h1.2⟩

end Go.Proofs.YtibkggbidojocaaDoor
