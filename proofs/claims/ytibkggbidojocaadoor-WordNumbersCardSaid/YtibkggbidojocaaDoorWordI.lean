/- The document's words; the example. -/
import Derived.Test.YtibkggbidojocaaDoorWordH
namespace Go.Proofs.YtibkggbidojocaaDoor
open Go.Am Go.Lib
set_option maxRecDepth 100000
set_option linter.unusedSimpArgs false
set_option linter.unusedVariables false
set_option linter.unusedSectionVars false

/-- The part of a text that a sign is. -/
theorem take_sgn (bs : List UInt8) (i n : Nat) : ByteArray.extract (strOf bs) i (i + n) = strOf ((bs.drop i).take n) := by
  rw [ext_of, Nat.add_sub_cancel_left]

section

variable {H : Am.Heap} {K : V → Am.Heap → Prop} {bs : List UInt8}

end

end Go.Proofs.YtibkggbidojocaaDoor
