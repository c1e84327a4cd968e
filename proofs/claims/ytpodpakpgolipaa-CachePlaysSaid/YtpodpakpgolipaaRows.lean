/-
  No cell of these rows narrows 'for every input' (looked for: loops, veiled, ifaces, maps, wideKeys, modest, calm, conditions, laid).
  DERIVED. THE GIVEN ROWS OF THIS SEAT. 10 by the template 'for every input the law returns true; each argument reads behind the call as it read before'; 0 by the template 'total and deterministic' (their statements: YtpodpakpgolipaaTotals.lean).
  GIVEN WITH THE SEED: the statements are not yours to turn. If you find one false, say at which input.
  Laid BY PROGRAM, IN A SANDBOX (cutbox-rows.mjs): the forced cells as the released guide's own fill.sh prints them over the translation 7c0fb5e046f76aaa… (all of the seat's roots in one cut). By AI agents, Wed Nov 11 2026. No macro, syntax, notation, axiom, sorry.
-/
import Derived.Test.YtpodpakpgolipaaChecked
import GoSem.Claim
import GoSem.ClaimJoined
import GoSem.ClaimMapViews
import Derived.JoinedTies
import Derived.KernelRfl
namespace Go.Proofs.Ytpodpakpgolipaa
/- THE CELL 'sum', in the pinned program and in every row, IS THE sha256 OF THE DUMP (.gsa) THAT YtpodpakpgolipaaProg.lean LOADS. Nothing in Lean hashes anything: it is a label: what it is worth is what the hold of that sum in a sandbox is worth. -/
noncomputable def Try.pinned : Pinned := { name := "ytpodpakpgolipaa", sum := "7c0fb5e046f76aaab5021a99a39e23ff487abe2ff8cfcc11d7b9d6d1274c079b", checked := Try.checked }
namespace Rows
def none {H : Type} : Left H := { results := [], args := [] }

/-- 'drawbarlaw13.TableWakes': WHATEVER THE INPUT: true; the input reads as it did. -/
def tableWakesSpec : ChangeSpec := { name := "tableWakes", fn := fun _ => fun
  | [d1, d2, d3] => { results := [.lit (.bool true)], args := [d1, d2, d3] }
  | _ => none }
def tableWakesRow : OpenClaim := { program := "ytpodpakpgolipaa", sum := "7c0fb5e046f76aaab5021a99a39e23ff487abe2ff8cfcc11d7b9d6d1274c079b", func := "drawbar/drawbarlaw13.TableWakes", spec := "tableWakes", apart := false }
def TableWakesSaid : Prop := tableWakesRow.holds Try.pinned (OpenSpec.ofChange tableWakesSpec)

/-- ITS FALSE NEIGHBOUR: 'it returns false'. Refute it at one input. -/
def tableWakesWrong : ChangeSpec := { name := "tableWakes", fn := fun _ => fun
  | [d1, d2, d3] => { results := [.lit (.bool false)], args := [d1, d2, d3] }
  | _ => none }
def TableWakesWrongFalsely : Prop := tableWakesRow.holds Try.pinned (OpenSpec.ofChange tableWakesWrong)

/-- 'drawbarlaw13.TableApart': WHATEVER THE INPUT: true; the input reads as it did. -/
def tableApartSpec : ChangeSpec := { name := "tableApart", fn := fun _ => fun
  | [d1, d2, d3, d4] => { results := [.lit (.bool true)], args := [d1, d2, d3, d4] }
  | _ => none }
def tableApartRow : OpenClaim := { program := "ytpodpakpgolipaa", sum := "7c0fb5e046f76aaab5021a99a39e23ff487abe2ff8cfcc11d7b9d6d1274c079b", func := "drawbar/drawbarlaw13.TableApart", spec := "tableApart", apart := false }
def TableApartSaid : Prop := tableApartRow.holds Try.pinned (OpenSpec.ofChange tableApartSpec)

/-- ITS FALSE NEIGHBOUR: 'it returns false'. Refute it at one input. -/
def tableApartWrong : ChangeSpec := { name := "tableApart", fn := fun _ => fun
  | [d1, d2, d3, d4] => { results := [.lit (.bool false)], args := [d1, d2, d3, d4] }
  | _ => none }
def TableApartWrongFalsely : Prop := tableApartRow.holds Try.pinned (OpenSpec.ofChange tableApartWrong)

/-- 'drawbarlaw13.TableForms': WHATEVER THE INPUT: true; the input reads as it did. -/
def tableFormsSpec : ChangeSpec := { name := "tableForms", fn := fun _ => fun
  | [d] => { results := [.lit (.bool true)], args := [d] }
  | _ => none }
def tableFormsRow : OpenClaim := { program := "ytpodpakpgolipaa", sum := "7c0fb5e046f76aaab5021a99a39e23ff487abe2ff8cfcc11d7b9d6d1274c079b", func := "drawbar/drawbarlaw13.TableForms", spec := "tableForms", apart := false }
def TableFormsSaid : Prop := tableFormsRow.holds Try.pinned (OpenSpec.ofChange tableFormsSpec)

/-- ITS FALSE NEIGHBOUR: 'it returns false'. Refute it at one input. -/
def tableFormsWrong : ChangeSpec := { name := "tableForms", fn := fun _ => fun
  | [d] => { results := [.lit (.bool false)], args := [d] }
  | _ => none }
def TableFormsWrongFalsely : Prop := tableFormsRow.holds Try.pinned (OpenSpec.ofChange tableFormsWrong)

/-- 'drawbarlaw11.CacheHoles': WHATEVER THE INPUT: true; the input reads as it did. -/
def cacheHolesSpec : ChangeSpec := { name := "cacheHoles", fn := fun _ => fun
  | [d1, d2, d3] => { results := [.lit (.bool true)], args := [d1, d2, d3] }
  | _ => none }
def cacheHolesRow : OpenClaim := { program := "ytpodpakpgolipaa", sum := "7c0fb5e046f76aaab5021a99a39e23ff487abe2ff8cfcc11d7b9d6d1274c079b", func := "drawbar/drawbarlaw11.CacheHoles", spec := "cacheHoles", inPlace := ["slices.overlaps[drawbar/cache.Page]"], unfollowed := true, recurses := true, apart := false }
def CacheHolesSaid : Prop := cacheHolesRow.holds Try.pinned (OpenSpec.ofChange cacheHolesSpec)

/-- ITS FALSE NEIGHBOUR: 'it returns false'. Refute it at one input. -/
def cacheHolesWrong : ChangeSpec := { name := "cacheHoles", fn := fun _ => fun
  | [d1, d2, d3] => { results := [.lit (.bool false)], args := [d1, d2, d3] }
  | _ => none }
def CacheHolesWrongFalsely : Prop := cacheHolesRow.holds Try.pinned (OpenSpec.ofChange cacheHolesWrong)

/-- 'drawbarlaw13.TableBack': WHATEVER THE INPUT: true; the input reads as it did. -/
def tableBackSpec : ChangeSpec := { name := "tableBack", fn := fun _ => fun
  | [d1, d2] => { results := [.lit (.bool true)], args := [d1, d2] }
  | _ => none }
def tableBackRow : OpenClaim := { program := "ytpodpakpgolipaa", sum := "7c0fb5e046f76aaab5021a99a39e23ff487abe2ff8cfcc11d7b9d6d1274c079b", func := "drawbar/drawbarlaw13.TableBack", spec := "tableBack", apart := false }
def TableBackSaid : Prop := tableBackRow.holds Try.pinned (OpenSpec.ofChange tableBackSpec)

/-- ITS FALSE NEIGHBOUR: 'it returns false'. Refute it at one input. -/
def tableBackWrong : ChangeSpec := { name := "tableBack", fn := fun _ => fun
  | [d1, d2] => { results := [.lit (.bool false)], args := [d1, d2] }
  | _ => none }
def TableBackWrongFalsely : Prop := tableBackRow.holds Try.pinned (OpenSpec.ofChange tableBackWrong)

/-- 'drawbarlaw13.TableReads': WHATEVER THE INPUT: true; the input reads as it did. -/
def tableReadsSpec : ChangeSpec := { name := "tableReads", fn := fun _ => fun
  | [d1, d2] => { results := [.lit (.bool true)], args := [d1, d2] }
  | _ => none }
def tableReadsRow : OpenClaim := { program := "ytpodpakpgolipaa", sum := "7c0fb5e046f76aaab5021a99a39e23ff487abe2ff8cfcc11d7b9d6d1274c079b", func := "drawbar/drawbarlaw13.TableReads", spec := "tableReads", apart := false }
def TableReadsSaid : Prop := tableReadsRow.holds Try.pinned (OpenSpec.ofChange tableReadsSpec)

/-- ITS FALSE NEIGHBOUR: 'it returns false'. Refute it at one input. -/
def tableReadsWrong : ChangeSpec := { name := "tableReads", fn := fun _ => fun
  | [d1, d2] => { results := [.lit (.bool false)], args := [d1, d2] }
  | _ => none }
def TableReadsWrongFalsely : Prop := tableReadsRow.holds Try.pinned (OpenSpec.ofChange tableReadsWrong)

/-- 'drawbarlaw13.TableShort': WHATEVER THE INPUT: true; the input reads as it did. -/
def tableShortSpec : ChangeSpec := { name := "tableShort", fn := fun _ => fun
  | [d1, d2, d3, d4] => { results := [.lit (.bool true)], args := [d1, d2, d3, d4] }
  | _ => none }
def tableShortRow : OpenClaim := { program := "ytpodpakpgolipaa", sum := "7c0fb5e046f76aaab5021a99a39e23ff487abe2ff8cfcc11d7b9d6d1274c079b", func := "drawbar/drawbarlaw13.TableShort", spec := "tableShort", apart := false }
def TableShortSaid : Prop := tableShortRow.holds Try.pinned (OpenSpec.ofChange tableShortSpec)

/-- ITS FALSE NEIGHBOUR: 'it returns false'. Refute it at one input. -/
def tableShortWrong : ChangeSpec := { name := "tableShort", fn := fun _ => fun
  | [d1, d2, d3, d4] => { results := [.lit (.bool false)], args := [d1, d2, d3, d4] }
  | _ => none }
def TableShortWrongFalsely : Prop := tableShortRow.holds Try.pinned (OpenSpec.ofChange tableShortWrong)

/-- 'drawbarlaw11.CacheFull': WHATEVER THE INPUT: true; the input reads as it did. -/
def cacheFullSpec : ChangeSpec := { name := "cacheFull", fn := fun _ => fun
  | [d1, d2] => { results := [.lit (.bool true)], args := [d1, d2] }
  | _ => none }
def cacheFullRow : OpenClaim := { program := "ytpodpakpgolipaa", sum := "7c0fb5e046f76aaab5021a99a39e23ff487abe2ff8cfcc11d7b9d6d1274c079b", func := "drawbar/drawbarlaw11.CacheFull", spec := "cacheFull", inPlace := ["slices.overlaps[drawbar/cache.Page]"], unfollowed := true, recurses := true, apart := false }
def CacheFullSaid : Prop := cacheFullRow.holds Try.pinned (OpenSpec.ofChange cacheFullSpec)

/-- ITS FALSE NEIGHBOUR: 'it returns false'. Refute it at one input. -/
def cacheFullWrong : ChangeSpec := { name := "cacheFull", fn := fun _ => fun
  | [d1, d2] => { results := [.lit (.bool false)], args := [d1, d2] }
  | _ => none }
def CacheFullWrongFalsely : Prop := cacheFullRow.holds Try.pinned (OpenSpec.ofChange cacheFullWrong)

/-- 'drawbarlaw11.CachePlays': WHATEVER THE INPUT: true; the input reads as it did. -/
def cachePlaysSpec : ChangeSpec := { name := "cachePlays", fn := fun _ => fun
  | [d] => { results := [.lit (.bool true)], args := [d] }
  | _ => none }
def cachePlaysRow : OpenClaim := { program := "ytpodpakpgolipaa", sum := "7c0fb5e046f76aaab5021a99a39e23ff487abe2ff8cfcc11d7b9d6d1274c079b", func := "drawbar/drawbarlaw11.CachePlays", spec := "cachePlays", inPlace := ["slices.overlaps[drawbar/cache.Page]"], unfollowed := true, recurses := true, apart := false }
def CachePlaysSaid : Prop := cachePlaysRow.holds Try.pinned (OpenSpec.ofChange cachePlaysSpec)

/-- ITS FALSE NEIGHBOUR: 'it returns false'. Refute it at one input. -/
def cachePlaysWrong : ChangeSpec := { name := "cachePlays", fn := fun _ => fun
  | [d] => { results := [.lit (.bool false)], args := [d] }
  | _ => none }
def CachePlaysWrongFalsely : Prop := cachePlaysRow.holds Try.pinned (OpenSpec.ofChange cachePlaysWrong)

/-- 'drawbarlaw11.CacheKeeps': WHATEVER THE INPUT: true; the input reads as it did. -/
def cacheKeepsSpec : ChangeSpec := { name := "cacheKeeps", fn := fun _ => fun
  | [d1, d2] => { results := [.lit (.bool true)], args := [d1, d2] }
  | _ => none }
def cacheKeepsRow : OpenClaim := { program := "ytpodpakpgolipaa", sum := "7c0fb5e046f76aaab5021a99a39e23ff487abe2ff8cfcc11d7b9d6d1274c079b", func := "drawbar/drawbarlaw11.CacheKeeps", spec := "cacheKeeps", inPlace := ["slices.overlaps[drawbar/cache.Page]"], unfollowed := true, recurses := true, apart := false }
def CacheKeepsSaid : Prop := cacheKeepsRow.holds Try.pinned (OpenSpec.ofChange cacheKeepsSpec)

/-- ITS FALSE NEIGHBOUR: 'it returns false'. Refute it at one input. -/
def cacheKeepsWrong : ChangeSpec := { name := "cacheKeeps", fn := fun _ => fun
  | [d1, d2] => { results := [.lit (.bool false)], args := [d1, d2] }
  | _ => none }
def CacheKeepsWrongFalsely : Prop := cacheKeepsRow.holds Try.pinned (OpenSpec.ofChange cacheKeepsWrong)

/- THE SECOND FORM. 'bulk': how many values and letters a reading holds, each counted each time it is reached (what is shared counts as often as it is met; a slice's spare places count too). A statement '..UptoSaid' is the law's where the arguments, and the package variables that the reading takes, are together of bulk at most 1048576: NARROWER than '..Said'. Prove '..Said' where nothing that the law and all that it calls make is longer than what came in: it says more and counts as full. Else prove '..UptoSaid'. A law counts once. -/
mutual
def uptoBulk {H : Type} : DataW H → Nat
  | .lit (.string bytes) => bytes.length + 1
  | .lit _ => 1
  | .nil => 1
  | .ptr d => uptoBulk d + 1
  | .slice elems spare => uptoBulkAll elems + uptoBulkAll spare + 1
  | .agg parts => uptoBulkAll parts + 1
  | .iface _ d => uptoBulk d + 1
  | .map entries => uptoBulkEntries entries + 1
  | .held _ => 1
def uptoBulkAll {H : Type} : List (DataW H) → Nat
  | [] => 0
  | d :: r => uptoBulk d + uptoBulkAll r
def uptoBulkEntries {H : Type} : List (Lit × DataW H) → Nat
  | [] => 0
  | x :: r => uptoBulkEntry x + uptoBulkEntries r
def uptoBulkEntry {H : Type} : Lit × DataW H → Nat
  | (.string bytes, d) => bytes.length + uptoBulk d + 1
  | (_, d) => uptoBulk d + 1
 end
def uptoSmall : (H : Type) → List (DataW H) → Bool := fun _ ds => decide (uptoBulkAll ds ≤ 1048576)
def OpenSpec.upto (s : _root_.Go.ChangeSpec) : _root_.Go.OpenSpec := { _root_.Go.OpenSpec.ofChange s with cond := some uptoSmall }

/-- 'drawbarlaw13.TableWakes', WHERE WHAT IT READS IS OF BULK AT MOST 1048576: true; the input reads as it did. -/
def tableWakesUptoRow : OpenClaim := { program := "ytpodpakpgolipaa", sum := "7c0fb5e046f76aaab5021a99a39e23ff487abe2ff8cfcc11d7b9d6d1274c079b", func := "drawbar/drawbarlaw13.TableWakes", spec := "tableWakes", apart := false, narrowed := true }
def TableWakesUptoSaid : Prop := tableWakesUptoRow.holds Try.pinned (OpenSpec.upto tableWakesSpec)

/-- 'drawbarlaw13.TableApart', WHERE WHAT IT READS IS OF BULK AT MOST 1048576: true; the input reads as it did. -/
def tableApartUptoRow : OpenClaim := { program := "ytpodpakpgolipaa", sum := "7c0fb5e046f76aaab5021a99a39e23ff487abe2ff8cfcc11d7b9d6d1274c079b", func := "drawbar/drawbarlaw13.TableApart", spec := "tableApart", apart := false, narrowed := true }
def TableApartUptoSaid : Prop := tableApartUptoRow.holds Try.pinned (OpenSpec.upto tableApartSpec)

/-- 'drawbarlaw13.TableForms', WHERE WHAT IT READS IS OF BULK AT MOST 1048576: true; the input reads as it did. -/
def tableFormsUptoRow : OpenClaim := { program := "ytpodpakpgolipaa", sum := "7c0fb5e046f76aaab5021a99a39e23ff487abe2ff8cfcc11d7b9d6d1274c079b", func := "drawbar/drawbarlaw13.TableForms", spec := "tableForms", apart := false, narrowed := true }
def TableFormsUptoSaid : Prop := tableFormsUptoRow.holds Try.pinned (OpenSpec.upto tableFormsSpec)

/-- 'drawbarlaw11.CacheHoles', WHERE WHAT IT READS IS OF BULK AT MOST 1048576: true; the input reads as it did. -/
def cacheHolesUptoRow : OpenClaim := { program := "ytpodpakpgolipaa", sum := "7c0fb5e046f76aaab5021a99a39e23ff487abe2ff8cfcc11d7b9d6d1274c079b", func := "drawbar/drawbarlaw11.CacheHoles", spec := "cacheHoles", inPlace := ["slices.overlaps[drawbar/cache.Page]"], unfollowed := true, recurses := true, apart := false, narrowed := true }
def CacheHolesUptoSaid : Prop := cacheHolesUptoRow.holds Try.pinned (OpenSpec.upto cacheHolesSpec)

/-- 'drawbarlaw13.TableBack', WHERE WHAT IT READS IS OF BULK AT MOST 1048576: true; the input reads as it did. -/
def tableBackUptoRow : OpenClaim := { program := "ytpodpakpgolipaa", sum := "7c0fb5e046f76aaab5021a99a39e23ff487abe2ff8cfcc11d7b9d6d1274c079b", func := "drawbar/drawbarlaw13.TableBack", spec := "tableBack", apart := false, narrowed := true }
def TableBackUptoSaid : Prop := tableBackUptoRow.holds Try.pinned (OpenSpec.upto tableBackSpec)

/-- 'drawbarlaw13.TableReads', WHERE WHAT IT READS IS OF BULK AT MOST 1048576: true; the input reads as it did. -/
def tableReadsUptoRow : OpenClaim := { program := "ytpodpakpgolipaa", sum := "7c0fb5e046f76aaab5021a99a39e23ff487abe2ff8cfcc11d7b9d6d1274c079b", func := "drawbar/drawbarlaw13.TableReads", spec := "tableReads", apart := false, narrowed := true }
def TableReadsUptoSaid : Prop := tableReadsUptoRow.holds Try.pinned (OpenSpec.upto tableReadsSpec)

/-- 'drawbarlaw13.TableShort', WHERE WHAT IT READS IS OF BULK AT MOST 1048576: true; the input reads as it did. -/
def tableShortUptoRow : OpenClaim := { program := "ytpodpakpgolipaa", sum := "7c0fb5e046f76aaab5021a99a39e23ff487abe2ff8cfcc11d7b9d6d1274c079b", func := "drawbar/drawbarlaw13.TableShort", spec := "tableShort", apart := false, narrowed := true }
def TableShortUptoSaid : Prop := tableShortUptoRow.holds Try.pinned (OpenSpec.upto tableShortSpec)

/-- 'drawbarlaw11.CacheFull', WHERE WHAT IT READS IS OF BULK AT MOST 1048576: true; the input reads as it did. -/
def cacheFullUptoRow : OpenClaim := { program := "ytpodpakpgolipaa", sum := "7c0fb5e046f76aaab5021a99a39e23ff487abe2ff8cfcc11d7b9d6d1274c079b", func := "drawbar/drawbarlaw11.CacheFull", spec := "cacheFull", inPlace := ["slices.overlaps[drawbar/cache.Page]"], unfollowed := true, recurses := true, apart := false, narrowed := true }
def CacheFullUptoSaid : Prop := cacheFullUptoRow.holds Try.pinned (OpenSpec.upto cacheFullSpec)

/-- 'drawbarlaw11.CachePlays', WHERE WHAT IT READS IS OF BULK AT MOST 1048576: true; the input reads as it did. -/
def cachePlaysUptoRow : OpenClaim := { program := "ytpodpakpgolipaa", sum := "7c0fb5e046f76aaab5021a99a39e23ff487abe2ff8cfcc11d7b9d6d1274c079b", func := "drawbar/drawbarlaw11.CachePlays", spec := "cachePlays", inPlace := ["slices.overlaps[drawbar/cache.Page]"], unfollowed := true, recurses := true, apart := false, narrowed := true }
def CachePlaysUptoSaid : Prop := cachePlaysUptoRow.holds Try.pinned (OpenSpec.upto cachePlaysSpec)

/-- 'drawbarlaw11.CacheKeeps', WHERE WHAT IT READS IS OF BULK AT MOST 1048576: true; the input reads as it did. -/
def cacheKeepsUptoRow : OpenClaim := { program := "ytpodpakpgolipaa", sum := "7c0fb5e046f76aaab5021a99a39e23ff487abe2ff8cfcc11d7b9d6d1274c079b", func := "drawbar/drawbarlaw11.CacheKeeps", spec := "cacheKeeps", inPlace := ["slices.overlaps[drawbar/cache.Page]"], unfollowed := true, recurses := true, apart := false, narrowed := true }
def CacheKeepsUptoSaid : Prop := cacheKeepsUptoRow.holds Try.pinned (OpenSpec.upto cacheKeepsSpec)

end Rows
end Go.Proofs.Ytpodpakpgolipaa
