/- A text that comes in: its weight. -/
import Derived.Test.YtibkggbidojocaaDoorAmLaw
namespace Go.Am
open Go.ChangeShapes Go.WideShapes Go.ChangeAt
set_option linter.unusedSimpArgs false
set_option linter.unusedVariables false

theorem arg_string2 {H : Type} {enc : TypeId × Value → H} {P : Program} {W : World} {r : Reach} {base : Nat} {t : TypeId} {v : Value} {d : DataW H} {p : List MemPlace}
    (hu : P.underlying t = some .string) (hval : Value.okWide P W r base t v) (h : DataW.Trod enc P W 0 (fun _ => true) true t v d p) :
    ∃ s : ByteArray, v = .string s ∧ d = .lit (.string s.data.toList) := by
  obtain ⟨n, hn⟩ := h
  cases n with
  | zero => simp [DataW.trod] at hn
  | succ n =>
    cases v <;> simp [Value.cells, DataW.trod, hu] at hn
    · exact ⟨_, rfl, hn.2.1.symm⟩
    · exact (okWide_agg hu rfl hval).elim

end Go.Am
