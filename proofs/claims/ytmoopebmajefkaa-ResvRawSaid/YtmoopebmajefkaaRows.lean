/-
  No cell of these rows narrows 'for every input' (looked for: loops, veiled, ifaces, maps, wideKeys, modest, calm, conditions, laid).
  DERIVED. THE GIVEN ROWS OF THIS SEAT. 7 by the template 'for every input the law returns true; each argument reads behind the call as it read before'; 0 by the template 'total and deterministic' (their statements: YtmoopebmajefkaaTotals.lean).
  GIVEN WITH THE SEED: the statements are not yours to turn. If you find one false, say at which input.
  Laid BY PROGRAM, IN A SANDBOX (cutbox-rows.mjs): the forced cells as the released guide's own fill.sh prints them over the translation 415912dd7afe7023… (all of the seat's roots in one cut). By AI agents, Wed Nov 11 2026. No macro, syntax, notation, axiom, sorry.
-/
import Derived.Test.YtmoopebmajefkaaChecked
import GoSem.Claim
import GoSem.ClaimJoined
import GoSem.ClaimMapViews
import Derived.JoinedTies
import Derived.KernelRfl
namespace Go.Proofs.Ytmoopebmajefkaa
/- THE CELL 'sum', in the pinned program and in every row, IS THE sha256 OF THE DUMP (.gsa) THAT YtmoopebmajefkaaProg.lean LOADS. Nothing in Lean hashes anything: it is a label: what it is worth is what the hold of that sum in a sandbox is worth. -/
noncomputable def Try.pinned : Pinned := { name := "ytmoopebmajefkaa", sum := "415912dd7afe70236a1533891ae79634c95794916a566d3a2fe7a34ac8a8e3fb", checked := Try.checked }
namespace Rows
def none {H : Type} : Left H := { results := [], args := [] }

/-- 'drawbarlaw12.ResvRaw': WHATEVER THE INPUT: true; the input reads as it did. -/
def resvRawSpec : ChangeSpec := { name := "resvRaw", fn := fun _ => fun
  | [d1, d2, d3] => { results := [.lit (.bool true)], args := [d1, d2, d3] }
  | _ => none }
def resvRawRow : OpenClaim := { program := "ytmoopebmajefkaa", sum := "415912dd7afe70236a1533891ae79634c95794916a566d3a2fe7a34ac8a8e3fb", func := "drawbar/drawbarlaw12.ResvRaw", spec := "resvRaw", apart := false }
def ResvRawSaid : Prop := resvRawRow.holds Try.pinned (OpenSpec.ofChange resvRawSpec)

/-- ITS FALSE NEIGHBOUR: 'it returns false'. Refute it at one input. -/
def resvRawWrong : ChangeSpec := { name := "resvRaw", fn := fun _ => fun
  | [d1, d2, d3] => { results := [.lit (.bool false)], args := [d1, d2, d3] }
  | _ => none }
def ResvRawWrongFalsely : Prop := resvRawRow.holds Try.pinned (OpenSpec.ofChange resvRawWrong)

/-- 'drawbarlaw12.ResvSafe': WHATEVER THE INPUT: true; the input reads as it did. -/
def resvSafeSpec : ChangeSpec := { name := "resvSafe", fn := fun _ => fun
  | [d] => { results := [.lit (.bool true)], args := [d] }
  | _ => none }
def resvSafeRow : OpenClaim := { program := "ytmoopebmajefkaa", sum := "415912dd7afe70236a1533891ae79634c95794916a566d3a2fe7a34ac8a8e3fb", func := "drawbar/drawbarlaw12.ResvSafe", spec := "resvSafe", apart := false }
def ResvSafeSaid : Prop := resvSafeRow.holds Try.pinned (OpenSpec.ofChange resvSafeSpec)

/-- ITS FALSE NEIGHBOUR: 'it returns false'. Refute it at one input. -/
def resvSafeWrong : ChangeSpec := { name := "resvSafe", fn := fun _ => fun
  | [d] => { results := [.lit (.bool false)], args := [d] }
  | _ => none }
def ResvSafeWrongFalsely : Prop := resvSafeRow.holds Try.pinned (OpenSpec.ofChange resvSafeWrong)

/-- 'drawbarlaw12.ResvPreempts': WHATEVER THE INPUT: true; the input reads as it did. -/
def resvPreemptsSpec : ChangeSpec := { name := "resvPreempts", fn := fun _ => fun
  | [d1, d2, d3, d4] => { results := [.lit (.bool true)], args := [d1, d2, d3, d4] }
  | _ => none }
def resvPreemptsRow : OpenClaim := { program := "ytmoopebmajefkaa", sum := "415912dd7afe70236a1533891ae79634c95794916a566d3a2fe7a34ac8a8e3fb", func := "drawbar/drawbarlaw12.ResvPreempts", spec := "resvPreempts", apart := false }
def ResvPreemptsSaid : Prop := resvPreemptsRow.holds Try.pinned (OpenSpec.ofChange resvPreemptsSpec)

/-- ITS FALSE NEIGHBOUR: 'it returns false'. Refute it at one input. -/
def resvPreemptsWrong : ChangeSpec := { name := "resvPreempts", fn := fun _ => fun
  | [d1, d2, d3, d4] => { results := [.lit (.bool false)], args := [d1, d2, d3, d4] }
  | _ => none }
def ResvPreemptsWrongFalsely : Prop := resvPreemptsRow.holds Try.pinned (OpenSpec.ofChange resvPreemptsWrong)

/-- 'drawbarlaw12.ResvCounts': WHATEVER THE INPUT: true; the input reads as it did. -/
def resvCountsSpec : ChangeSpec := { name := "resvCounts", fn := fun _ => fun
  | [d] => { results := [.lit (.bool true)], args := [d] }
  | _ => none }
def resvCountsRow : OpenClaim := { program := "ytmoopebmajefkaa", sum := "415912dd7afe70236a1533891ae79634c95794916a566d3a2fe7a34ac8a8e3fb", func := "drawbar/drawbarlaw12.ResvCounts", spec := "resvCounts", apart := false }
def ResvCountsSaid : Prop := resvCountsRow.holds Try.pinned (OpenSpec.ofChange resvCountsSpec)

/-- ITS FALSE NEIGHBOUR: 'it returns false'. Refute it at one input. -/
def resvCountsWrong : ChangeSpec := { name := "resvCounts", fn := fun _ => fun
  | [d] => { results := [.lit (.bool false)], args := [d] }
  | _ => none }
def ResvCountsWrongFalsely : Prop := resvCountsRow.holds Try.pinned (OpenSpec.ofChange resvCountsWrong)

/-- 'drawbarlaw12.ResvClears': WHATEVER THE INPUT: true; the input reads as it did. -/
def resvClearsSpec : ChangeSpec := { name := "resvClears", fn := fun _ => fun
  | [d1, d2] => { results := [.lit (.bool true)], args := [d1, d2] }
  | _ => none }
def resvClearsRow : OpenClaim := { program := "ytmoopebmajefkaa", sum := "415912dd7afe70236a1533891ae79634c95794916a566d3a2fe7a34ac8a8e3fb", func := "drawbar/drawbarlaw12.ResvClears", spec := "resvClears", apart := false }
def ResvClearsSaid : Prop := resvClearsRow.holds Try.pinned (OpenSpec.ofChange resvClearsSpec)

/-- ITS FALSE NEIGHBOUR: 'it returns false'. Refute it at one input. -/
def resvClearsWrong : ChangeSpec := { name := "resvClears", fn := fun _ => fun
  | [d1, d2] => { results := [.lit (.bool false)], args := [d1, d2] }
  | _ => none }
def ResvClearsWrongFalsely : Prop := resvClearsRow.holds Try.pinned (OpenSpec.ofChange resvClearsWrong)

/-- 'drawbarlaw12.ResvTable': WHATEVER THE INPUT: true; the input reads as it did. -/
def resvTableSpec : ChangeSpec := { name := "resvTable", fn := fun _ => fun
  | [d1, d2] => { results := [.lit (.bool true)], args := [d1, d2] }
  | _ => none }
def resvTableRow : OpenClaim := { program := "ytmoopebmajefkaa", sum := "415912dd7afe70236a1533891ae79634c95794916a566d3a2fe7a34ac8a8e3fb", func := "drawbar/drawbarlaw12.ResvTable", spec := "resvTable", apart := false }
def ResvTableSaid : Prop := resvTableRow.holds Try.pinned (OpenSpec.ofChange resvTableSpec)

/-- ITS FALSE NEIGHBOUR: 'it returns false'. Refute it at one input. -/
def resvTableWrong : ChangeSpec := { name := "resvTable", fn := fun _ => fun
  | [d1, d2] => { results := [.lit (.bool false)], args := [d1, d2] }
  | _ => none }
def ResvTableWrongFalsely : Prop := resvTableRow.holds Try.pinned (OpenSpec.ofChange resvTableWrong)

/-- 'drawbarlaw12.ResvOthers': WHATEVER THE INPUT: true; the input reads as it did. -/
def resvOthersSpec : ChangeSpec := { name := "resvOthers", fn := fun _ => fun
  | [d1, d2, d3, d4, d5] => { results := [.lit (.bool true)], args := [d1, d2, d3, d4, d5] }
  | _ => none }
def resvOthersRow : OpenClaim := { program := "ytmoopebmajefkaa", sum := "415912dd7afe70236a1533891ae79634c95794916a566d3a2fe7a34ac8a8e3fb", func := "drawbar/drawbarlaw12.ResvOthers", spec := "resvOthers", apart := false }
def ResvOthersSaid : Prop := resvOthersRow.holds Try.pinned (OpenSpec.ofChange resvOthersSpec)

/-- ITS FALSE NEIGHBOUR: 'it returns false'. Refute it at one input. -/
def resvOthersWrong : ChangeSpec := { name := "resvOthers", fn := fun _ => fun
  | [d1, d2, d3, d4, d5] => { results := [.lit (.bool false)], args := [d1, d2, d3, d4, d5] }
  | _ => none }
def ResvOthersWrongFalsely : Prop := resvOthersRow.holds Try.pinned (OpenSpec.ofChange resvOthersWrong)

/- THE SECOND FORM. 'bulk': how many values and letters a reading holds, each counted each time it is reached (what is shared counts as often as it is met; a slice's spare places count too). A statement '..UptoSaid' is the law's where the arguments, and the package variables that the reading takes, are together of bulk at most 1048576: NARROWER than '..Said'. Prove '..Said' where nothing that the law and all that it calls make is longer than what came in: it says more and counts as full. Else prove '..UptoSaid'. A law counts once. -/
mutual
def uptoBulk {H : Type} : DataW H → Nat
  | .lit (.string bytes) => bytes.length + 1
  | .lit _ => 1
  | .nil => 1
  | .ptr d => uptoBulk d + 1
  | .slice elems spare => uptoBulkAll elems + uptoBulkAll spare + 1
  | .agg parts => uptoBulkAll parts + 1
  | .iface _ d => uptoBulk d + 1
  | .map entries => uptoBulkEntries entries + 1
  | .held _ => 1
def uptoBulkAll {H : Type} : List (DataW H) → Nat
  | [] => 0
  | d :: r => uptoBulk d + uptoBulkAll r
def uptoBulkEntries {H : Type} : List (Lit × DataW H) → Nat
  | [] => 0
  | x :: r => uptoBulkEntry x + uptoBulkEntries r
def uptoBulkEntry {H : Type} : Lit × DataW H → Nat
  | (.string bytes, d) => bytes.length + uptoBulk d + 1
  | (_, d) => uptoBulk d + 1
 end
def uptoSmall : (H : Type) → List (DataW H) → Bool := fun _ ds => decide (uptoBulkAll ds ≤ 1048576)
def OpenSpec.upto (s : _root_.Go.ChangeSpec) : _root_.Go.OpenSpec := { _root_.Go.OpenSpec.ofChange s with cond := some uptoSmall }

/-- 'drawbarlaw12.ResvRaw', WHERE WHAT IT READS IS OF BULK AT MOST 1048576: true; the input reads as it did. -/
def resvRawUptoRow : OpenClaim := { program := "ytmoopebmajefkaa", sum := "415912dd7afe70236a1533891ae79634c95794916a566d3a2fe7a34ac8a8e3fb", func := "drawbar/drawbarlaw12.ResvRaw", spec := "resvRaw", apart := false, narrowed := true }
def ResvRawUptoSaid : Prop := resvRawUptoRow.holds Try.pinned (OpenSpec.upto resvRawSpec)

/-- 'drawbarlaw12.ResvSafe', WHERE WHAT IT READS IS OF BULK AT MOST 1048576: true; the input reads as it did. -/
def resvSafeUptoRow : OpenClaim := { program := "ytmoopebmajefkaa", sum := "415912dd7afe70236a1533891ae79634c95794916a566d3a2fe7a34ac8a8e3fb", func := "drawbar/drawbarlaw12.ResvSafe", spec := "resvSafe", apart := false, narrowed := true }
def ResvSafeUptoSaid : Prop := resvSafeUptoRow.holds Try.pinned (OpenSpec.upto resvSafeSpec)

/-- 'drawbarlaw12.ResvPreempts', WHERE WHAT IT READS IS OF BULK AT MOST 1048576: true; the input reads as it did. -/
def resvPreemptsUptoRow : OpenClaim := { program := "ytmoopebmajefkaa", sum := "415912dd7afe70236a1533891ae79634c95794916a566d3a2fe7a34ac8a8e3fb", func := "drawbar/drawbarlaw12.ResvPreempts", spec := "resvPreempts", apart := false, narrowed := true }
def ResvPreemptsUptoSaid : Prop := resvPreemptsUptoRow.holds Try.pinned (OpenSpec.upto resvPreemptsSpec)

/-- 'drawbarlaw12.ResvCounts', WHERE WHAT IT READS IS OF BULK AT MOST 1048576: true; the input reads as it did. -/
def resvCountsUptoRow : OpenClaim := { program := "ytmoopebmajefkaa", sum := "415912dd7afe70236a1533891ae79634c95794916a566d3a2fe7a34ac8a8e3fb", func := "drawbar/drawbarlaw12.ResvCounts", spec := "resvCounts", apart := false, narrowed := true }
def ResvCountsUptoSaid : Prop := resvCountsUptoRow.holds Try.pinned (OpenSpec.upto resvCountsSpec)

/-- 'drawbarlaw12.ResvClears', WHERE WHAT IT READS IS OF BULK AT MOST 1048576: true; the input reads as it did. -/
def resvClearsUptoRow : OpenClaim := { program := "ytmoopebmajefkaa", sum := "415912dd7afe70236a1533891ae79634c95794916a566d3a2fe7a34ac8a8e3fb", func := "drawbar/drawbarlaw12.ResvClears", spec := "resvClears", apart := false, narrowed := true }
def ResvClearsUptoSaid : Prop := resvClearsUptoRow.holds Try.pinned (OpenSpec.upto resvClearsSpec)

/-- 'drawbarlaw12.ResvTable', WHERE WHAT IT READS IS OF BULK AT MOST 1048576: true; the input reads as it did. -/
def resvTableUptoRow : OpenClaim := { program := "ytmoopebmajefkaa", sum := "415912dd7afe70236a1533891ae79634c95794916a566d3a2fe7a34ac8a8e3fb", func := "drawbar/drawbarlaw12.ResvTable", spec := "resvTable", apart := false, narrowed := true }
def ResvTableUptoSaid : Prop := resvTableUptoRow.holds Try.pinned (OpenSpec.upto resvTableSpec)

/-- 'drawbarlaw12.ResvOthers', WHERE WHAT IT READS IS OF BULK AT MOST 1048576: true; the input reads as it did. -/
def resvOthersUptoRow : OpenClaim := { program := "ytmoopebmajefkaa", sum := "415912dd7afe70236a1533891ae79634c95794916a566d3a2fe7a34ac8a8e3fb", func := "drawbar/drawbarlaw12.ResvOthers", spec := "resvOthers", apart := false, narrowed := true }
def ResvOthersUptoSaid : Prop := resvOthersUptoRow.holds Try.pinned (OpenSpec.upto resvOthersSpec)

end Rows
end Go.Proofs.Ytmoopebmajefkaa
