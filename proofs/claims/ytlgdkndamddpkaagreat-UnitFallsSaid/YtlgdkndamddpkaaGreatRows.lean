/-
  No cell of these rows narrows 'for every input' (looked for: loops, veiled, ifaces, maps, wideKeys, modest, calm, conditions, laid).
  DERIVED. THE GIVEN ROWS OF THIS SEAT. 7 by the template 'for every input the law returns true; each argument reads behind the call as it read before'; 0 by the template 'total and deterministic' (their statements: YtlgdkndamddpkaaGreatTotals.lean).
  GIVEN WITH THE SEED: the statements are not yours to turn. If you find one false, say at which input.
  Laid BY PROGRAM, IN A SANDBOX (cutbox-rows.mjs): the forced cells as the released guide's own fill.sh prints them over the translation 3777827ffb90d445… (all of the seat's roots in one cut). By AI agents, Wed Nov 11 2026. No macro, syntax, notation, axiom, sorry.
-/
import Derived.Test.YtlgdkndamddpkaaGreatChecked
import GoSem.Claim
import GoSem.ClaimJoined
import GoSem.ClaimMapViews
import Derived.JoinedTies
import Derived.KernelRfl
namespace Go.Proofs.YtlgdkndamddpkaaGreat
/- THE CELL 'sum', in the pinned program and in every row, IS THE sha256 OF THE DUMP (.gsa) THAT YtlgdkndamddpkaaGreatProg.lean LOADS. Nothing in Lean hashes anything: it is a label: what it is worth is what the hold of that sum in a sandbox is worth. -/
noncomputable def Tryz.pinned : Pinned := { name := "ytlgdkndamddpkaagreat", sum := "3777827ffb90d445e0b4c7fa9acf7177b9adf21df01589df57323d177ee18ad9", checked := Tryz.checked }
namespace Rows
def none {H : Type} : Left H := { results := [], args := [] }

/-- 'drawbarlaw15.UnitWakes': WHATEVER THE INPUT: true; the input reads as it did. -/
def unitWakesSpec : ChangeSpec := { name := "unitWakes", fn := fun _ => fun
  | [d1, d2, d3] => { results := [.lit (.bool true)], args := [d1, d2, d3] }
  | _ => none }
def unitWakesRow : OpenClaim := { program := "ytlgdkndamddpkaagreat", sum := "3777827ffb90d445e0b4c7fa9acf7177b9adf21df01589df57323d177ee18ad9", func := "drawbar/drawbarlaw15.UnitWakes", spec := "unitWakes", inPlace := ["slices.overlaps[drawbar/cache.Page]"], unfollowed := true, recurses := true, apart := false }
def UnitWakesSaid : Prop := unitWakesRow.holds Tryz.pinned (OpenSpec.ofChange unitWakesSpec)

/-- ITS FALSE NEIGHBOUR: 'it returns false'. Refute it at one input. -/
def unitWakesWrong : ChangeSpec := { name := "unitWakes", fn := fun _ => fun
  | [d1, d2, d3] => { results := [.lit (.bool false)], args := [d1, d2, d3] }
  | _ => none }
def UnitWakesWrongFalsely : Prop := unitWakesRow.holds Tryz.pinned (OpenSpec.ofChange unitWakesWrong)

/-- 'drawbarlaw15.UnitRaw': WHATEVER THE INPUT: true; the input reads as it did. -/
def unitRawSpec : ChangeSpec := { name := "unitRaw", fn := fun _ => fun
  | [d1, d2, d3, d4] => { results := [.lit (.bool true)], args := [d1, d2, d3, d4] }
  | _ => none }
def unitRawRow : OpenClaim := { program := "ytlgdkndamddpkaagreat", sum := "3777827ffb90d445e0b4c7fa9acf7177b9adf21df01589df57323d177ee18ad9", func := "drawbar/drawbarlaw15.UnitRaw", spec := "unitRaw", inPlace := ["slices.overlaps[drawbar/cache.Page]"], unfollowed := true, recurses := true, apart := false }
def UnitRawSaid : Prop := unitRawRow.holds Tryz.pinned (OpenSpec.ofChange unitRawSpec)

/-- ITS FALSE NEIGHBOUR: 'it returns false'. Refute it at one input. -/
def unitRawWrong : ChangeSpec := { name := "unitRaw", fn := fun _ => fun
  | [d1, d2, d3, d4] => { results := [.lit (.bool false)], args := [d1, d2, d3, d4] }
  | _ => none }
def UnitRawWrongFalsely : Prop := unitRawRow.holds Tryz.pinned (OpenSpec.ofChange unitRawWrong)

/-- 'drawbarlaw15.UnitTwins': WHATEVER THE INPUT: true; the input reads as it did. -/
def unitTwinsSpec : ChangeSpec := { name := "unitTwins", fn := fun _ => fun
  | [d1, d2] => { results := [.lit (.bool true)], args := [d1, d2] }
  | _ => none }
def unitTwinsRow : OpenClaim := { program := "ytlgdkndamddpkaagreat", sum := "3777827ffb90d445e0b4c7fa9acf7177b9adf21df01589df57323d177ee18ad9", func := "drawbar/drawbarlaw15.UnitTwins", spec := "unitTwins", inPlace := ["slices.overlaps[drawbar/cache.Page]"], unfollowed := true, recurses := true, apart := false }
def UnitTwinsSaid : Prop := unitTwinsRow.holds Tryz.pinned (OpenSpec.ofChange unitTwinsSpec)

/-- ITS FALSE NEIGHBOUR: 'it returns false'. Refute it at one input. -/
def unitTwinsWrong : ChangeSpec := { name := "unitTwins", fn := fun _ => fun
  | [d1, d2] => { results := [.lit (.bool false)], args := [d1, d2] }
  | _ => none }
def UnitTwinsWrongFalsely : Prop := unitTwinsRow.holds Tryz.pinned (OpenSpec.ofChange unitTwinsWrong)

/-- 'drawbarlaw15.UnitFlushes': WHATEVER THE INPUT: true; the input reads as it did. -/
def unitFlushesSpec : ChangeSpec := { name := "unitFlushes", fn := fun _ => fun
  | [d1, d2] => { results := [.lit (.bool true)], args := [d1, d2] }
  | _ => none }
def unitFlushesRow : OpenClaim := { program := "ytlgdkndamddpkaagreat", sum := "3777827ffb90d445e0b4c7fa9acf7177b9adf21df01589df57323d177ee18ad9", func := "drawbar/drawbarlaw15.UnitFlushes", spec := "unitFlushes", inPlace := ["slices.overlaps[drawbar/cache.Page]"], unfollowed := true, recurses := true, apart := false }
def UnitFlushesSaid : Prop := unitFlushesRow.holds Tryz.pinned (OpenSpec.ofChange unitFlushesSpec)

/-- ITS FALSE NEIGHBOUR: 'it returns false'. Refute it at one input. -/
def unitFlushesWrong : ChangeSpec := { name := "unitFlushes", fn := fun _ => fun
  | [d1, d2] => { results := [.lit (.bool false)], args := [d1, d2] }
  | _ => none }
def UnitFlushesWrongFalsely : Prop := unitFlushesRow.holds Tryz.pinned (OpenSpec.ofChange unitFlushesWrong)

/-- 'drawbarlaw15.UnitFull': WHATEVER THE INPUT: true; the input reads as it did. -/
def unitFullSpec : ChangeSpec := { name := "unitFull", fn := fun _ => fun
  | [d1, d2] => { results := [.lit (.bool true)], args := [d1, d2] }
  | _ => none }
def unitFullRow : OpenClaim := { program := "ytlgdkndamddpkaagreat", sum := "3777827ffb90d445e0b4c7fa9acf7177b9adf21df01589df57323d177ee18ad9", func := "drawbar/drawbarlaw15.UnitFull", spec := "unitFull", inPlace := ["slices.overlaps[drawbar/cache.Page]"], unfollowed := true, recurses := true, apart := false }
def UnitFullSaid : Prop := unitFullRow.holds Tryz.pinned (OpenSpec.ofChange unitFullSpec)

/-- ITS FALSE NEIGHBOUR: 'it returns false'. Refute it at one input. -/
def unitFullWrong : ChangeSpec := { name := "unitFull", fn := fun _ => fun
  | [d1, d2] => { results := [.lit (.bool false)], args := [d1, d2] }
  | _ => none }
def UnitFullWrongFalsely : Prop := unitFullRow.holds Tryz.pinned (OpenSpec.ofChange unitFullWrong)

/-- 'drawbarlaw15.UnitPlays': WHATEVER THE INPUT: true; the input reads as it did. -/
def unitPlaysSpec : ChangeSpec := { name := "unitPlays", fn := fun _ => fun
  | [d1, d2] => { results := [.lit (.bool true)], args := [d1, d2] }
  | _ => none }
def unitPlaysRow : OpenClaim := { program := "ytlgdkndamddpkaagreat", sum := "3777827ffb90d445e0b4c7fa9acf7177b9adf21df01589df57323d177ee18ad9", func := "drawbar/drawbarlaw15.UnitPlays", spec := "unitPlays", inPlace := ["slices.overlaps[drawbar/cache.Page]"], unfollowed := true, recurses := true, apart := false }
def UnitPlaysSaid : Prop := unitPlaysRow.holds Tryz.pinned (OpenSpec.ofChange unitPlaysSpec)

/-- ITS FALSE NEIGHBOUR: 'it returns false'. Refute it at one input. -/
def unitPlaysWrong : ChangeSpec := { name := "unitPlays", fn := fun _ => fun
  | [d1, d2] => { results := [.lit (.bool false)], args := [d1, d2] }
  | _ => none }
def UnitPlaysWrongFalsely : Prop := unitPlaysRow.holds Tryz.pinned (OpenSpec.ofChange unitPlaysWrong)

/-- 'drawbarlaw15.UnitFalls': WHATEVER THE INPUT: true; the input reads as it did. -/
def unitFallsSpec : ChangeSpec := { name := "unitFalls", fn := fun _ => fun
  | [d1, d2] => { results := [.lit (.bool true)], args := [d1, d2] }
  | _ => none }
def unitFallsRow : OpenClaim := { program := "ytlgdkndamddpkaagreat", sum := "3777827ffb90d445e0b4c7fa9acf7177b9adf21df01589df57323d177ee18ad9", func := "drawbar/drawbarlaw15.UnitFalls", spec := "unitFalls", inPlace := ["slices.overlaps[drawbar/cache.Page]"], unfollowed := true, recurses := true, apart := false }
def UnitFallsSaid : Prop := unitFallsRow.holds Tryz.pinned (OpenSpec.ofChange unitFallsSpec)

/-- ITS FALSE NEIGHBOUR: 'it returns false'. Refute it at one input. -/
def unitFallsWrong : ChangeSpec := { name := "unitFalls", fn := fun _ => fun
  | [d1, d2] => { results := [.lit (.bool false)], args := [d1, d2] }
  | _ => none }
def UnitFallsWrongFalsely : Prop := unitFallsRow.holds Tryz.pinned (OpenSpec.ofChange unitFallsWrong)

/- THE SECOND FORM. 'bulk': how many values and letters a reading holds, each counted each time it is reached (what is shared counts as often as it is met; a slice's spare places count too). A statement '..UptoSaid' is the law's where the arguments, and the package variables that the reading takes, are together of bulk at most 1048576: NARROWER than '..Said'. Prove '..Said' where nothing that the law and all that it calls make is longer than what came in: it says more and counts as full. Else prove '..UptoSaid'. A law counts once. -/
mutual
def uptoBulk {H : Type} : DataW H → Nat
  | .lit (.string bytes) => bytes.length + 1
  | .lit _ => 1
  | .nil => 1
  | .ptr d => uptoBulk d + 1
  | .slice elems spare => uptoBulkAll elems + uptoBulkAll spare + 1
  | .agg parts => uptoBulkAll parts + 1
  | .iface _ d => uptoBulk d + 1
  | .map entries => uptoBulkEntries entries + 1
  | .held _ => 1
def uptoBulkAll {H : Type} : List (DataW H) → Nat
  | [] => 0
  | d :: r => uptoBulk d + uptoBulkAll r
def uptoBulkEntries {H : Type} : List (Lit × DataW H) → Nat
  | [] => 0
  | x :: r => uptoBulkEntry x + uptoBulkEntries r
def uptoBulkEntry {H : Type} : Lit × DataW H → Nat
  | (.string bytes, d) => bytes.length + uptoBulk d + 1
  | (_, d) => uptoBulk d + 1
 end
def uptoSmall : (H : Type) → List (DataW H) → Bool := fun _ ds => decide (uptoBulkAll ds ≤ 1048576)
def OpenSpec.upto (s : _root_.Go.ChangeSpec) : _root_.Go.OpenSpec := { _root_.Go.OpenSpec.ofChange s with cond := some uptoSmall }

/-- 'drawbarlaw15.UnitWakes', WHERE WHAT IT READS IS OF BULK AT MOST 1048576: true; the input reads as it did. -/
def unitWakesUptoRow : OpenClaim := { program := "ytlgdkndamddpkaagreat", sum := "3777827ffb90d445e0b4c7fa9acf7177b9adf21df01589df57323d177ee18ad9", func := "drawbar/drawbarlaw15.UnitWakes", spec := "unitWakes", inPlace := ["slices.overlaps[drawbar/cache.Page]"], unfollowed := true, recurses := true, apart := false, narrowed := true }
def UnitWakesUptoSaid : Prop := unitWakesUptoRow.holds Tryz.pinned (OpenSpec.upto unitWakesSpec)

/-- 'drawbarlaw15.UnitRaw', WHERE WHAT IT READS IS OF BULK AT MOST 1048576: true; the input reads as it did. -/
def unitRawUptoRow : OpenClaim := { program := "ytlgdkndamddpkaagreat", sum := "3777827ffb90d445e0b4c7fa9acf7177b9adf21df01589df57323d177ee18ad9", func := "drawbar/drawbarlaw15.UnitRaw", spec := "unitRaw", inPlace := ["slices.overlaps[drawbar/cache.Page]"], unfollowed := true, recurses := true, apart := false, narrowed := true }
def UnitRawUptoSaid : Prop := unitRawUptoRow.holds Tryz.pinned (OpenSpec.upto unitRawSpec)

/-- 'drawbarlaw15.UnitTwins', WHERE WHAT IT READS IS OF BULK AT MOST 1048576: true; the input reads as it did. -/
def unitTwinsUptoRow : OpenClaim := { program := "ytlgdkndamddpkaagreat", sum := "3777827ffb90d445e0b4c7fa9acf7177b9adf21df01589df57323d177ee18ad9", func := "drawbar/drawbarlaw15.UnitTwins", spec := "unitTwins", inPlace := ["slices.overlaps[drawbar/cache.Page]"], unfollowed := true, recurses := true, apart := false, narrowed := true }
def UnitTwinsUptoSaid : Prop := unitTwinsUptoRow.holds Tryz.pinned (OpenSpec.upto unitTwinsSpec)

/-- 'drawbarlaw15.UnitFlushes', WHERE WHAT IT READS IS OF BULK AT MOST 1048576: true; the input reads as it did. -/
def unitFlushesUptoRow : OpenClaim := { program := "ytlgdkndamddpkaagreat", sum := "3777827ffb90d445e0b4c7fa9acf7177b9adf21df01589df57323d177ee18ad9", func := "drawbar/drawbarlaw15.UnitFlushes", spec := "unitFlushes", inPlace := ["slices.overlaps[drawbar/cache.Page]"], unfollowed := true, recurses := true, apart := false, narrowed := true }
def UnitFlushesUptoSaid : Prop := unitFlushesUptoRow.holds Tryz.pinned (OpenSpec.upto unitFlushesSpec)

/-- 'drawbarlaw15.UnitFull', WHERE WHAT IT READS IS OF BULK AT MOST 1048576: true; the input reads as it did. -/
def unitFullUptoRow : OpenClaim := { program := "ytlgdkndamddpkaagreat", sum := "3777827ffb90d445e0b4c7fa9acf7177b9adf21df01589df57323d177ee18ad9", func := "drawbar/drawbarlaw15.UnitFull", spec := "unitFull", inPlace := ["slices.overlaps[drawbar/cache.Page]"], unfollowed := true, recurses := true, apart := false, narrowed := true }
def UnitFullUptoSaid : Prop := unitFullUptoRow.holds Tryz.pinned (OpenSpec.upto unitFullSpec)

/-- 'drawbarlaw15.UnitPlays', WHERE WHAT IT READS IS OF BULK AT MOST 1048576: true; the input reads as it did. -/
def unitPlaysUptoRow : OpenClaim := { program := "ytlgdkndamddpkaagreat", sum := "3777827ffb90d445e0b4c7fa9acf7177b9adf21df01589df57323d177ee18ad9", func := "drawbar/drawbarlaw15.UnitPlays", spec := "unitPlays", inPlace := ["slices.overlaps[drawbar/cache.Page]"], unfollowed := true, recurses := true, apart := false, narrowed := true }
def UnitPlaysUptoSaid : Prop := unitPlaysUptoRow.holds Tryz.pinned (OpenSpec.upto unitPlaysSpec)

/-- 'drawbarlaw15.UnitFalls', WHERE WHAT IT READS IS OF BULK AT MOST 1048576: true; the input reads as it did. -/
def unitFallsUptoRow : OpenClaim := { program := "ytlgdkndamddpkaagreat", sum := "3777827ffb90d445e0b4c7fa9acf7177b9adf21df01589df57323d177ee18ad9", func := "drawbar/drawbarlaw15.UnitFalls", spec := "unitFalls", inPlace := ["slices.overlaps[drawbar/cache.Page]"], unfollowed := true, recurses := true, apart := false, narrowed := true }
def UnitFallsUptoSaid : Prop := unitFallsUptoRow.holds Tryz.pinned (OpenSpec.upto unitFallsSpec)

end Rows
end Go.Proofs.YtlgdkndamddpkaaGreat
