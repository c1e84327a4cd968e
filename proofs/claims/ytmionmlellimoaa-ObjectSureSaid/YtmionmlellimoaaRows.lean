/-
  No cell of these rows narrows 'for every input' (looked for: loops, veiled, ifaces, maps, wideKeys, modest, calm, conditions, laid).
  DERIVED. THE GIVEN ROWS OF THIS SEAT. 6 by the template 'for every input the law returns true; each argument reads behind the call as it read before'; 0 by the template 'total and deterministic' (their statements: YtmionmlellimoaaTotals.lean).
  GIVEN WITH THE SEED: the statements are not yours to turn. If you find one false, say at which input.
  Laid BY PROGRAM, IN A SANDBOX (cutbox-rows.mjs): the forced cells as the released guide's own fill.sh prints them over the translation 5937f18ef82704eb… (all of the seat's roots in one cut). By AI agents, Wed Nov 11 2026. No macro, syntax, notation, axiom, sorry.
-/
import Derived.Test.YtmionmlellimoaaChecked
import GoSem.Claim
import GoSem.ClaimJoined
import GoSem.ClaimMapViews
import Derived.JoinedTies
import Derived.KernelRfl
namespace Go.Proofs.Ytmionmlellimoaa
/- THE CELL 'sum', in the pinned program and in every row, IS THE sha256 OF THE DUMP (.gsa) THAT YtmionmlellimoaaProg.lean LOADS. Nothing in Lean hashes anything: it is a label: what it is worth is what the hold of that sum in a sandbox is worth. -/
noncomputable def Try.pinned : Pinned := { name := "ytmionmlellimoaa", sum := "5937f18ef82704eb6987c19c867e555aaae749e6f085b7eb165fbad6d3d20e0c", checked := Try.checked }
namespace Rows
def none {H : Type} : Left H := { results := [], args := [] }

/-- 'drawbarlaw14.ObjectOthers': WHATEVER THE INPUT: true; the input reads as it did. -/
def objectOthersSpec : ChangeSpec := { name := "objectOthers", fn := fun _ => fun
  | [d1, d2] => { results := [.lit (.bool true)], args := [d1, d2] }
  | _ => none }
def objectOthersRow : OpenClaim := { program := "ytmionmlellimoaa", sum := "5937f18ef82704eb6987c19c867e555aaae749e6f085b7eb165fbad6d3d20e0c", func := "drawbar/drawbarlaw14.ObjectOthers", spec := "objectOthers", inPlace := ["slices.overlaps[drawbar/cache.Page]"], unfollowed := true, recurses := true, apart := false }
def ObjectOthersSaid : Prop := objectOthersRow.holds Try.pinned (OpenSpec.ofChange objectOthersSpec)

/-- ITS FALSE NEIGHBOUR: 'it returns false'. Refute it at one input. -/
def objectOthersWrong : ChangeSpec := { name := "objectOthers", fn := fun _ => fun
  | [d1, d2] => { results := [.lit (.bool false)], args := [d1, d2] }
  | _ => none }
def ObjectOthersWrongFalsely : Prop := objectOthersRow.holds Try.pinned (OpenSpec.ofChange objectOthersWrong)

/-- 'drawbarlaw14.ObjectConflicts': WHATEVER THE INPUT: true; the input reads as it did. -/
def objectConflictsSpec : ChangeSpec := { name := "objectConflicts", fn := fun _ => fun
  | [d1, d2, d3] => { results := [.lit (.bool true)], args := [d1, d2, d3] }
  | _ => none }
def objectConflictsRow : OpenClaim := { program := "ytmionmlellimoaa", sum := "5937f18ef82704eb6987c19c867e555aaae749e6f085b7eb165fbad6d3d20e0c", func := "drawbar/drawbarlaw14.ObjectConflicts", spec := "objectConflicts", inPlace := ["slices.overlaps[drawbar/cache.Page]"], unfollowed := true, recurses := true, apart := false }
def ObjectConflictsSaid : Prop := objectConflictsRow.holds Try.pinned (OpenSpec.ofChange objectConflictsSpec)

/-- ITS FALSE NEIGHBOUR: 'it returns false'. Refute it at one input. -/
def objectConflictsWrong : ChangeSpec := { name := "objectConflicts", fn := fun _ => fun
  | [d1, d2, d3] => { results := [.lit (.bool false)], args := [d1, d2, d3] }
  | _ => none }
def ObjectConflictsWrongFalsely : Prop := objectConflictsRow.holds Try.pinned (OpenSpec.ofChange objectConflictsWrong)

/-- 'drawbarlaw14.ObjectFull': WHATEVER THE INPUT: true; the input reads as it did. -/
def objectFullSpec : ChangeSpec := { name := "objectFull", fn := fun _ => fun
  | [d] => { results := [.lit (.bool true)], args := [d] }
  | _ => none }
def objectFullRow : OpenClaim := { program := "ytmionmlellimoaa", sum := "5937f18ef82704eb6987c19c867e555aaae749e6f085b7eb165fbad6d3d20e0c", func := "drawbar/drawbarlaw14.ObjectFull", spec := "objectFull", inPlace := ["slices.overlaps[drawbar/cache.Page]"], unfollowed := true, recurses := true, apart := false }
def ObjectFullSaid : Prop := objectFullRow.holds Try.pinned (OpenSpec.ofChange objectFullSpec)

/-- ITS FALSE NEIGHBOUR: 'it returns false'. Refute it at one input. -/
def objectFullWrong : ChangeSpec := { name := "objectFull", fn := fun _ => fun
  | [d] => { results := [.lit (.bool false)], args := [d] }
  | _ => none }
def ObjectFullWrongFalsely : Prop := objectFullRow.holds Try.pinned (OpenSpec.ofChange objectFullWrong)

/-- 'drawbarlaw14.ObjectPlays': WHATEVER THE INPUT: true; the input reads as it did. -/
def objectPlaysSpec : ChangeSpec := { name := "objectPlays", fn := fun _ => fun
  | [d1, d2] => { results := [.lit (.bool true)], args := [d1, d2] }
  | _ => none }
def objectPlaysRow : OpenClaim := { program := "ytmionmlellimoaa", sum := "5937f18ef82704eb6987c19c867e555aaae749e6f085b7eb165fbad6d3d20e0c", func := "drawbar/drawbarlaw14.ObjectPlays", spec := "objectPlays", inPlace := ["slices.overlaps[drawbar/cache.Page]"], unfollowed := true, recurses := true, apart := false }
def ObjectPlaysSaid : Prop := objectPlaysRow.holds Try.pinned (OpenSpec.ofChange objectPlaysSpec)

/-- ITS FALSE NEIGHBOUR: 'it returns false'. Refute it at one input. -/
def objectPlaysWrong : ChangeSpec := { name := "objectPlays", fn := fun _ => fun
  | [d1, d2] => { results := [.lit (.bool false)], args := [d1, d2] }
  | _ => none }
def ObjectPlaysWrongFalsely : Prop := objectPlaysRow.holds Try.pinned (OpenSpec.ofChange objectPlaysWrong)

/-- 'drawbarlaw14.ObjectSure': WHATEVER THE INPUT: true; the input reads as it did. -/
def objectSureSpec : ChangeSpec := { name := "objectSure", fn := fun _ => fun
  | [d1, d2] => { results := [.lit (.bool true)], args := [d1, d2] }
  | _ => none }
def objectSureRow : OpenClaim := { program := "ytmionmlellimoaa", sum := "5937f18ef82704eb6987c19c867e555aaae749e6f085b7eb165fbad6d3d20e0c", func := "drawbar/drawbarlaw14.ObjectSure", spec := "objectSure", inPlace := ["slices.overlaps[drawbar/cache.Page]"], unfollowed := true, recurses := true, apart := false }
def ObjectSureSaid : Prop := objectSureRow.holds Try.pinned (OpenSpec.ofChange objectSureSpec)

/-- ITS FALSE NEIGHBOUR: 'it returns false'. Refute it at one input. -/
def objectSureWrong : ChangeSpec := { name := "objectSure", fn := fun _ => fun
  | [d1, d2] => { results := [.lit (.bool false)], args := [d1, d2] }
  | _ => none }
def ObjectSureWrongFalsely : Prop := objectSureRow.holds Try.pinned (OpenSpec.ofChange objectSureWrong)

/-- 'drawbarlaw14.ObjectErrs': WHATEVER THE INPUT: true; the input reads as it did. -/
def objectErrsSpec : ChangeSpec := { name := "objectErrs", fn := fun _ => fun
  | [d1, d2, d3] => { results := [.lit (.bool true)], args := [d1, d2, d3] }
  | _ => none }
def objectErrsRow : OpenClaim := { program := "ytmionmlellimoaa", sum := "5937f18ef82704eb6987c19c867e555aaae749e6f085b7eb165fbad6d3d20e0c", func := "drawbar/drawbarlaw14.ObjectErrs", spec := "objectErrs", inPlace := ["slices.overlaps[drawbar/cache.Page]"], unfollowed := true, recurses := true, apart := false }
def ObjectErrsSaid : Prop := objectErrsRow.holds Try.pinned (OpenSpec.ofChange objectErrsSpec)

/-- ITS FALSE NEIGHBOUR: 'it returns false'. Refute it at one input. -/
def objectErrsWrong : ChangeSpec := { name := "objectErrs", fn := fun _ => fun
  | [d1, d2, d3] => { results := [.lit (.bool false)], args := [d1, d2, d3] }
  | _ => none }
def ObjectErrsWrongFalsely : Prop := objectErrsRow.holds Try.pinned (OpenSpec.ofChange objectErrsWrong)

/- THE SECOND FORM. 'bulk': how many values and letters a reading holds, each counted each time it is reached (what is shared counts as often as it is met; a slice's spare places count too). A statement '..UptoSaid' is the law's where the arguments, and the package variables that the reading takes, are together of bulk at most 1048576: NARROWER than '..Said'. Prove '..Said' where nothing that the law and all that it calls make is longer than what came in: it says more and counts as full. Else prove '..UptoSaid'. A law counts once. -/
mutual
def uptoBulk {H : Type} : DataW H → Nat
  | .lit (.string bytes) => bytes.length + 1
  | .lit _ => 1
  | .nil => 1
  | .ptr d => uptoBulk d + 1
  | .slice elems spare => uptoBulkAll elems + uptoBulkAll spare + 1
  | .agg parts => uptoBulkAll parts + 1
  | .iface _ d => uptoBulk d + 1
  | .map entries => uptoBulkEntries entries + 1
  | .held _ => 1
def uptoBulkAll {H : Type} : List (DataW H) → Nat
  | [] => 0
  | d :: r => uptoBulk d + uptoBulkAll r
def uptoBulkEntries {H : Type} : List (Lit × DataW H) → Nat
  | [] => 0
  | x :: r => uptoBulkEntry x + uptoBulkEntries r
def uptoBulkEntry {H : Type} : Lit × DataW H → Nat
  | (.string bytes, d) => bytes.length + uptoBulk d + 1
  | (_, d) => uptoBulk d + 1
 end
def uptoSmall : (H : Type) → List (DataW H) → Bool := fun _ ds => decide (uptoBulkAll ds ≤ 1048576)
def OpenSpec.upto (s : _root_.Go.ChangeSpec) : _root_.Go.OpenSpec := { _root_.Go.OpenSpec.ofChange s with cond := some uptoSmall }

/-- 'drawbarlaw14.ObjectOthers', WHERE WHAT IT READS IS OF BULK AT MOST 1048576: true; the input reads as it did. -/
def objectOthersUptoRow : OpenClaim := { program := "ytmionmlellimoaa", sum := "5937f18ef82704eb6987c19c867e555aaae749e6f085b7eb165fbad6d3d20e0c", func := "drawbar/drawbarlaw14.ObjectOthers", spec := "objectOthers", inPlace := ["slices.overlaps[drawbar/cache.Page]"], unfollowed := true, recurses := true, apart := false, narrowed := true }
def ObjectOthersUptoSaid : Prop := objectOthersUptoRow.holds Try.pinned (OpenSpec.upto objectOthersSpec)

/-- 'drawbarlaw14.ObjectConflicts', WHERE WHAT IT READS IS OF BULK AT MOST 1048576: true; the input reads as it did. -/
def objectConflictsUptoRow : OpenClaim := { program := "ytmionmlellimoaa", sum := "5937f18ef82704eb6987c19c867e555aaae749e6f085b7eb165fbad6d3d20e0c", func := "drawbar/drawbarlaw14.ObjectConflicts", spec := "objectConflicts", inPlace := ["slices.overlaps[drawbar/cache.Page]"], unfollowed := true, recurses := true, apart := false, narrowed := true }
def ObjectConflictsUptoSaid : Prop := objectConflictsUptoRow.holds Try.pinned (OpenSpec.upto objectConflictsSpec)

/-- 'drawbarlaw14.ObjectFull', WHERE WHAT IT READS IS OF BULK AT MOST 1048576: true; the input reads as it did. -/
def objectFullUptoRow : OpenClaim := { program := "ytmionmlellimoaa", sum := "5937f18ef82704eb6987c19c867e555aaae749e6f085b7eb165fbad6d3d20e0c", func := "drawbar/drawbarlaw14.ObjectFull", spec := "objectFull", inPlace := ["slices.overlaps[drawbar/cache.Page]"], unfollowed := true, recurses := true, apart := false, narrowed := true }
def ObjectFullUptoSaid : Prop := objectFullUptoRow.holds Try.pinned (OpenSpec.upto objectFullSpec)

/-- 'drawbarlaw14.ObjectPlays', WHERE WHAT IT READS IS OF BULK AT MOST 1048576: true; the input reads as it did. -/
def objectPlaysUptoRow : OpenClaim := { program := "ytmionmlellimoaa", sum := "5937f18ef82704eb6987c19c867e555aaae749e6f085b7eb165fbad6d3d20e0c", func := "drawbar/drawbarlaw14.ObjectPlays", spec := "objectPlays", inPlace := ["slices.overlaps[drawbar/cache.Page]"], unfollowed := true, recurses := true, apart := false, narrowed := true }
def ObjectPlaysUptoSaid : Prop := objectPlaysUptoRow.holds Try.pinned (OpenSpec.upto objectPlaysSpec)

/-- 'drawbarlaw14.ObjectSure', WHERE WHAT IT READS IS OF BULK AT MOST 1048576: true; the input reads as it did. -/
def objectSureUptoRow : OpenClaim := { program := "ytmionmlellimoaa", sum := "5937f18ef82704eb6987c19c867e555aaae749e6f085b7eb165fbad6d3d20e0c", func := "drawbar/drawbarlaw14.ObjectSure", spec := "objectSure", inPlace := ["slices.overlaps[drawbar/cache.Page]"], unfollowed := true, recurses := true, apart := false, narrowed := true }
def ObjectSureUptoSaid : Prop := objectSureUptoRow.holds Try.pinned (OpenSpec.upto objectSureSpec)

/-- 'drawbarlaw14.ObjectErrs', WHERE WHAT IT READS IS OF BULK AT MOST 1048576: true; the input reads as it did. -/
def objectErrsUptoRow : OpenClaim := { program := "ytmionmlellimoaa", sum := "5937f18ef82704eb6987c19c867e555aaae749e6f085b7eb165fbad6d3d20e0c", func := "drawbar/drawbarlaw14.ObjectErrs", spec := "objectErrs", inPlace := ["slices.overlaps[drawbar/cache.Page]"], unfollowed := true, recurses := true, apart := false, narrowed := true }
def ObjectErrsUptoSaid : Prop := objectErrsUptoRow.holds Try.pinned (OpenSpec.upto objectErrsSpec)

end Rows
end Go.Proofs.Ytmionmlellimoaa
