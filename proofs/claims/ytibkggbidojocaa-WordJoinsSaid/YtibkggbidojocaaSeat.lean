/- Closed facts of this seat that every law's row wants. -/
import Derived.Test.YtibkggbidojocaaAmEnv
import Derived.Test.YtibkggbidojocaaAmLaw
namespace Go.Proofs.Ytibkggbidojocaa
open Go.Am
set_option maxRecDepth 100000
set_option linter.unusedSimpArgs false
set_option linter.unusedVariables false

theorem own : ownKnob Try.prog.godebug = none := by kernel_rfl
theorem laid : laidOutB Try.prog = true := by kernel_rfl
theorem par_ok {l : List TypeId} (h : (l.all fun t => Try.prog.readableRec t && Nat.blt t Try.prog.types.size) = true) : ∀ t ∈ l, env.P.readableRec t = true ∧ t < env.P.types.size := by
  intro t ht
  have h1 := List.all_eq_true.1 h t ht
  rw [Bool.and_eq_true] at h1
  exact ⟨h1.1, Nat.le_of_ble_eq_true h1.2⟩

end Go.Proofs.Ytibkggbidojocaa
