/-
  No cell of these rows narrows 'for every input' (looked for: loops, veiled, ifaces, maps, wideKeys, modest, calm, conditions, laid).
  DERIVED. THE GIVEN ROWS OF THIS SEAT. 16 by the template 'for every input the law returns true; each argument reads behind the call as it read before'; 0 by the template 'total and deterministic' (their statements: YtlbgnmcjdmdjpaaTotals.lean).
  GIVEN WITH THE SEED: the statements are not yours to turn. If you find one false, say at which input.
  Laid BY PROGRAM, IN A SANDBOX (cutbox-rows.mjs): the forced cells as the released guide's own fill.sh prints them over the translation 30af8f8005610b18… (all of the seat's roots in one cut). By AI agents, Wed Nov 11 2026. No macro, syntax, notation, axiom, sorry.
-/
import Derived.Test.YtlbgnmcjdmdjpaaChecked
import GoSem.Claim
import GoSem.ClaimJoined
import GoSem.ClaimMapViews
import Derived.JoinedTies
import Derived.KernelRfl
namespace Go.Proofs.Ytlbgnmcjdmdjpaa
/- THE CELL 'sum', in the pinned program and in every row, IS THE sha256 OF THE DUMP (.gsa) THAT YtlbgnmcjdmdjpaaProg.lean LOADS. Nothing in Lean hashes anything: it is a label: what it is worth is what the hold of that sum in a sandbox is worth. -/
noncomputable def Try.pinned : Pinned := { name := "ytlbgnmcjdmdjpaa", sum := "30af8f8005610b182f9b49ab05dec6a9e90bf6c60e80f1e87ea2be9eeead65fa", checked := Try.checked }
namespace Rows
def none {H : Type} : Left H := { results := [], args := [] }

/-- 'taffraillaw02.PtableFull': WHATEVER THE INPUT: true; the input reads as it did. -/
def ptableFullSpec : ChangeSpec := { name := "ptableFull", fn := fun _ => fun
  | [d1, d2] => { results := [.lit (.bool true)], args := [d1, d2] }
  | _ => none }
def ptableFullRow : OpenClaim := { program := "ytlbgnmcjdmdjpaa", sum := "30af8f8005610b182f9b49ab05dec6a9e90bf6c60e80f1e87ea2be9eeead65fa", func := "taffrail/taffraillaw02.PtableFull", spec := "ptableFull", unfollowed := true, recurses := true, apart := false }
def PtableFullSaid : Prop := ptableFullRow.holds Try.pinned (OpenSpec.ofChange ptableFullSpec)

/-- ITS FALSE NEIGHBOUR: 'it returns false'. Refute it at one input. -/
def ptableFullWrong : ChangeSpec := { name := "ptableFull", fn := fun _ => fun
  | [d1, d2] => { results := [.lit (.bool false)], args := [d1, d2] }
  | _ => none }
def PtableFullWrongFalsely : Prop := ptableFullRow.holds Try.pinned (OpenSpec.ofChange ptableFullWrong)

/-- 'taffraillaw02.PtableApart': WHATEVER THE INPUT: true; the input reads as it did. -/
def ptableApartSpec : ChangeSpec := { name := "ptableApart", fn := fun _ => fun
  | [d1, d2, d3, d4, d5] => { results := [.lit (.bool true)], args := [d1, d2, d3, d4, d5] }
  | _ => none }
def ptableApartRow : OpenClaim := { program := "ytlbgnmcjdmdjpaa", sum := "30af8f8005610b182f9b49ab05dec6a9e90bf6c60e80f1e87ea2be9eeead65fa", func := "taffrail/taffraillaw02.PtableApart", spec := "ptableApart", unfollowed := true, recurses := true, apart := false }
def PtableApartSaid : Prop := ptableApartRow.holds Try.pinned (OpenSpec.ofChange ptableApartSpec)

/-- ITS FALSE NEIGHBOUR: 'it returns false'. Refute it at one input. -/
def ptableApartWrong : ChangeSpec := { name := "ptableApart", fn := fun _ => fun
  | [d1, d2, d3, d4, d5] => { results := [.lit (.bool false)], args := [d1, d2, d3, d4, d5] }
  | _ => none }
def PtableApartWrongFalsely : Prop := ptableApartRow.holds Try.pinned (OpenSpec.ofChange ptableApartWrong)

/-- 'taffraillaw02.PtableCounts': WHATEVER THE INPUT: true; the input reads as it did. -/
def ptableCountsSpec : ChangeSpec := { name := "ptableCounts", fn := fun _ => fun
  | [d] => { results := [.lit (.bool true)], args := [d] }
  | _ => none }
def ptableCountsRow : OpenClaim := { program := "ytlbgnmcjdmdjpaa", sum := "30af8f8005610b182f9b49ab05dec6a9e90bf6c60e80f1e87ea2be9eeead65fa", func := "taffrail/taffraillaw02.PtableCounts", spec := "ptableCounts", unfollowed := true, recurses := true, apart := false }
def PtableCountsSaid : Prop := ptableCountsRow.holds Try.pinned (OpenSpec.ofChange ptableCountsSpec)

/-- ITS FALSE NEIGHBOUR: 'it returns false'. Refute it at one input. -/
def ptableCountsWrong : ChangeSpec := { name := "ptableCounts", fn := fun _ => fun
  | [d] => { results := [.lit (.bool false)], args := [d] }
  | _ => none }
def PtableCountsWrongFalsely : Prop := ptableCountsRow.holds Try.pinned (OpenSpec.ofChange ptableCountsWrong)

/-- 'taffraillaw02.PtableDoes': WHATEVER THE INPUT: true; the input reads as it did. -/
def ptableDoesSpec : ChangeSpec := { name := "ptableDoes", fn := fun _ => fun
  | [d1, d2] => { results := [.lit (.bool true)], args := [d1, d2] }
  | _ => none }
def ptableDoesRow : OpenClaim := { program := "ytlbgnmcjdmdjpaa", sum := "30af8f8005610b182f9b49ab05dec6a9e90bf6c60e80f1e87ea2be9eeead65fa", func := "taffrail/taffraillaw02.PtableDoes", spec := "ptableDoes", unfollowed := true, recurses := true, apart := false }
def PtableDoesSaid : Prop := ptableDoesRow.holds Try.pinned (OpenSpec.ofChange ptableDoesSpec)

/-- ITS FALSE NEIGHBOUR: 'it returns false'. Refute it at one input. -/
def ptableDoesWrong : ChangeSpec := { name := "ptableDoes", fn := fun _ => fun
  | [d1, d2] => { results := [.lit (.bool false)], args := [d1, d2] }
  | _ => none }
def PtableDoesWrongFalsely : Prop := ptableDoesRow.holds Try.pinned (OpenSpec.ofChange ptableDoesWrong)

/-- 'taffraillaw02.PtableEmpty': WHATEVER THE INPUT: true; the input reads as it did. -/
def ptableEmptySpec : ChangeSpec := { name := "ptableEmpty", fn := fun _ => fun
  | [d] => { results := [.lit (.bool true)], args := [d] }
  | _ => none }
def ptableEmptyRow : OpenClaim := { program := "ytlbgnmcjdmdjpaa", sum := "30af8f8005610b182f9b49ab05dec6a9e90bf6c60e80f1e87ea2be9eeead65fa", func := "taffrail/taffraillaw02.PtableEmpty", spec := "ptableEmpty", unfollowed := true, recurses := true, apart := false }
def PtableEmptySaid : Prop := ptableEmptyRow.holds Try.pinned (OpenSpec.ofChange ptableEmptySpec)

/-- ITS FALSE NEIGHBOUR: 'it returns false'. Refute it at one input. -/
def ptableEmptyWrong : ChangeSpec := { name := "ptableEmpty", fn := fun _ => fun
  | [d] => { results := [.lit (.bool false)], args := [d] }
  | _ => none }
def PtableEmptyWrongFalsely : Prop := ptableEmptyRow.holds Try.pinned (OpenSpec.ofChange ptableEmptyWrong)

/-- 'taffraillaw02.PtableWrong': WHATEVER THE INPUT: true; the input reads as it did. -/
def ptableWrongSpec : ChangeSpec := { name := "ptableWrong", fn := fun _ => fun
  | [d1, d2] => { results := [.lit (.bool true)], args := [d1, d2] }
  | _ => none }
def ptableWrongRow : OpenClaim := { program := "ytlbgnmcjdmdjpaa", sum := "30af8f8005610b182f9b49ab05dec6a9e90bf6c60e80f1e87ea2be9eeead65fa", func := "taffrail/taffraillaw02.PtableWrong", spec := "ptableWrong", unfollowed := true, recurses := true, apart := false }
def PtableWrongSaid : Prop := ptableWrongRow.holds Try.pinned (OpenSpec.ofChange ptableWrongSpec)

/-- ITS FALSE NEIGHBOUR: 'it returns false'. Refute it at one input. -/
def ptableWrongWrong : ChangeSpec := { name := "ptableWrong", fn := fun _ => fun
  | [d1, d2] => { results := [.lit (.bool false)], args := [d1, d2] }
  | _ => none }
def PtableWrongWrongFalsely : Prop := ptableWrongRow.holds Try.pinned (OpenSpec.ofChange ptableWrongWrong)

/-- 'taffraillaw03.CopyioBack': WHATEVER THE INPUT: true; the input reads as it did. -/
def copyioBackSpec : ChangeSpec := { name := "copyioBack", fn := fun _ => fun
  | [d1, d2, d3, d4, d5] => { results := [.lit (.bool true)], args := [d1, d2, d3, d4, d5] }
  | _ => none }
def copyioBackRow : OpenClaim := { program := "ytlbgnmcjdmdjpaa", sum := "30af8f8005610b182f9b49ab05dec6a9e90bf6c60e80f1e87ea2be9eeead65fa", func := "taffrail/taffraillaw03.CopyioBack", spec := "copyioBack", inPlace := ["internal/abi.NoEscape", "internal/bytealg.MakeNoZero"], unfollowed := true, recurses := true, apart := false }
def CopyioBackSaid : Prop := copyioBackRow.holds Try.pinned (OpenSpec.ofChange copyioBackSpec)

/-- ITS FALSE NEIGHBOUR: 'it returns false'. Refute it at one input. -/
def copyioBackWrong : ChangeSpec := { name := "copyioBack", fn := fun _ => fun
  | [d1, d2, d3, d4, d5] => { results := [.lit (.bool false)], args := [d1, d2, d3, d4, d5] }
  | _ => none }
def CopyioBackWrongFalsely : Prop := copyioBackRow.holds Try.pinned (OpenSpec.ofChange copyioBackWrong)

/-- 'taffraillaw03.CopyioParts': WHATEVER THE INPUT: true; the input reads as it did. -/
def copyioPartsSpec : ChangeSpec := { name := "copyioParts", fn := fun _ => fun
  | [d1, d2, d3, d4] => { results := [.lit (.bool true)], args := [d1, d2, d3, d4] }
  | _ => none }
def copyioPartsRow : OpenClaim := { program := "ytlbgnmcjdmdjpaa", sum := "30af8f8005610b182f9b49ab05dec6a9e90bf6c60e80f1e87ea2be9eeead65fa", func := "taffrail/taffraillaw03.CopyioParts", spec := "copyioParts", inPlace := ["internal/abi.NoEscape", "internal/bytealg.MakeNoZero"], unfollowed := true, recurses := true, apart := false }
def CopyioPartsSaid : Prop := copyioPartsRow.holds Try.pinned (OpenSpec.ofChange copyioPartsSpec)

/-- ITS FALSE NEIGHBOUR: 'it returns false'. Refute it at one input. -/
def copyioPartsWrong : ChangeSpec := { name := "copyioParts", fn := fun _ => fun
  | [d1, d2, d3, d4] => { results := [.lit (.bool false)], args := [d1, d2, d3, d4] }
  | _ => none }
def CopyioPartsWrongFalsely : Prop := copyioPartsRow.holds Try.pinned (OpenSpec.ofChange copyioPartsWrong)

/-- 'taffraillaw03.CopyioWrong': WHATEVER THE INPUT: true; the input reads as it did. -/
def copyioWrongSpec : ChangeSpec := { name := "copyioWrong", fn := fun _ => fun
  | [d1, d2] => { results := [.lit (.bool true)], args := [d1, d2] }
  | _ => none }
def copyioWrongRow : OpenClaim := { program := "ytlbgnmcjdmdjpaa", sum := "30af8f8005610b182f9b49ab05dec6a9e90bf6c60e80f1e87ea2be9eeead65fa", func := "taffrail/taffraillaw03.CopyioWrong", spec := "copyioWrong", inPlace := ["internal/abi.NoEscape", "internal/bytealg.MakeNoZero"], unfollowed := true, recurses := true, apart := false }
def CopyioWrongSaid : Prop := copyioWrongRow.holds Try.pinned (OpenSpec.ofChange copyioWrongSpec)

/-- ITS FALSE NEIGHBOUR: 'it returns false'. Refute it at one input. -/
def copyioWrongWrong : ChangeSpec := { name := "copyioWrong", fn := fun _ => fun
  | [d1, d2] => { results := [.lit (.bool false)], args := [d1, d2] }
  | _ => none }
def CopyioWrongWrongFalsely : Prop := copyioWrongRow.holds Try.pinned (OpenSpec.ofChange copyioWrongWrong)

/-- 'taffraillaw03.CopyioLess': WHATEVER THE INPUT: true; the input reads as it did. -/
def copyioLessSpec : ChangeSpec := { name := "copyioLess", fn := fun _ => fun
  | [d1, d2, d3, d4, d5, d6] => { results := [.lit (.bool true)], args := [d1, d2, d3, d4, d5, d6] }
  | _ => none }
def copyioLessRow : OpenClaim := { program := "ytlbgnmcjdmdjpaa", sum := "30af8f8005610b182f9b49ab05dec6a9e90bf6c60e80f1e87ea2be9eeead65fa", func := "taffrail/taffraillaw03.CopyioLess", spec := "copyioLess", inPlace := ["internal/abi.NoEscape", "internal/bytealg.MakeNoZero"], unfollowed := true, recurses := true, apart := false }
def CopyioLessSaid : Prop := copyioLessRow.holds Try.pinned (OpenSpec.ofChange copyioLessSpec)

/-- ITS FALSE NEIGHBOUR: 'it returns false'. Refute it at one input. -/
def copyioLessWrong : ChangeSpec := { name := "copyioLess", fn := fun _ => fun
  | [d1, d2, d3, d4, d5, d6] => { results := [.lit (.bool false)], args := [d1, d2, d3, d4, d5, d6] }
  | _ => none }
def CopyioLessWrongFalsely : Prop := copyioLessRow.holds Try.pinned (OpenSpec.ofChange copyioLessWrong)

/-- 'taffraillaw04.SpaceImages': WHATEVER THE INPUT: true; the input reads as it did. -/
def spaceImagesSpec : ChangeSpec := { name := "spaceImages", fn := fun _ => fun
  | [d1, d2, d3] => { results := [.lit (.bool true)], args := [d1, d2, d3] }
  | _ => none }
def spaceImagesRow : OpenClaim := { program := "ytlbgnmcjdmdjpaa", sum := "30af8f8005610b182f9b49ab05dec6a9e90bf6c60e80f1e87ea2be9eeead65fa", func := "taffrail/taffraillaw04.SpaceImages", spec := "spaceImages", inPlace := ["internal/abi.NoEscape", "internal/bytealg.MakeNoZero"], unfollowed := true, recurses := true, apart := false }
def SpaceImagesSaid : Prop := spaceImagesRow.holds Try.pinned (OpenSpec.ofChange spaceImagesSpec)

/-- ITS FALSE NEIGHBOUR: 'it returns false'. Refute it at one input. -/
def spaceImagesWrong : ChangeSpec := { name := "spaceImages", fn := fun _ => fun
  | [d1, d2, d3] => { results := [.lit (.bool false)], args := [d1, d2, d3] }
  | _ => none }
def SpaceImagesWrongFalsely : Prop := spaceImagesRow.holds Try.pinned (OpenSpec.ofChange spaceImagesWrong)

/-- 'taffraillaw04.SpaceGrows': WHATEVER THE INPUT: true; the input reads as it did. -/
def spaceGrowsSpec : ChangeSpec := { name := "spaceGrows", fn := fun _ => fun
  | [d1, d2] => { results := [.lit (.bool true)], args := [d1, d2] }
  | _ => none }
def spaceGrowsRow : OpenClaim := { program := "ytlbgnmcjdmdjpaa", sum := "30af8f8005610b182f9b49ab05dec6a9e90bf6c60e80f1e87ea2be9eeead65fa", func := "taffrail/taffraillaw04.SpaceGrows", spec := "spaceGrows", inPlace := ["internal/abi.NoEscape", "internal/bytealg.MakeNoZero"], unfollowed := true, recurses := true, apart := false }
def SpaceGrowsSaid : Prop := spaceGrowsRow.holds Try.pinned (OpenSpec.ofChange spaceGrowsSpec)

/-- ITS FALSE NEIGHBOUR: 'it returns false'. Refute it at one input. -/
def spaceGrowsWrong : ChangeSpec := { name := "spaceGrows", fn := fun _ => fun
  | [d1, d2] => { results := [.lit (.bool false)], args := [d1, d2] }
  | _ => none }
def SpaceGrowsWrongFalsely : Prop := spaceGrowsRow.holds Try.pinned (OpenSpec.ofChange spaceGrowsWrong)

/-- 'taffraillaw04.SpaceForks': WHATEVER THE INPUT: true; the input reads as it did. -/
def spaceForksSpec : ChangeSpec := { name := "spaceForks", fn := fun _ => fun
  | [d1, d2, d3, d4] => { results := [.lit (.bool true)], args := [d1, d2, d3, d4] }
  | _ => none }
def spaceForksRow : OpenClaim := { program := "ytlbgnmcjdmdjpaa", sum := "30af8f8005610b182f9b49ab05dec6a9e90bf6c60e80f1e87ea2be9eeead65fa", func := "taffrail/taffraillaw04.SpaceForks", spec := "spaceForks", inPlace := ["internal/abi.NoEscape", "internal/bytealg.MakeNoZero"], unfollowed := true, recurses := true, apart := false }
def SpaceForksSaid : Prop := spaceForksRow.holds Try.pinned (OpenSpec.ofChange spaceForksSpec)

/-- ITS FALSE NEIGHBOUR: 'it returns false'. Refute it at one input. -/
def spaceForksWrong : ChangeSpec := { name := "spaceForks", fn := fun _ => fun
  | [d1, d2, d3, d4] => { results := [.lit (.bool false)], args := [d1, d2, d3, d4] }
  | _ => none }
def SpaceForksWrongFalsely : Prop := spaceForksRow.holds Try.pinned (OpenSpec.ofChange spaceForksWrong)

/-- 'taffraillaw04.SpaceFrees': WHATEVER THE INPUT: true; the input reads as it did. -/
def spaceFreesSpec : ChangeSpec := { name := "spaceFrees", fn := fun _ => fun
  | [d1, d2, d3] => { results := [.lit (.bool true)], args := [d1, d2, d3] }
  | _ => none }
def spaceFreesRow : OpenClaim := { program := "ytlbgnmcjdmdjpaa", sum := "30af8f8005610b182f9b49ab05dec6a9e90bf6c60e80f1e87ea2be9eeead65fa", func := "taffrail/taffraillaw04.SpaceFrees", spec := "spaceFrees", unfollowed := true, recurses := true, apart := false }
def SpaceFreesSaid : Prop := spaceFreesRow.holds Try.pinned (OpenSpec.ofChange spaceFreesSpec)

/-- ITS FALSE NEIGHBOUR: 'it returns false'. Refute it at one input. -/
def spaceFreesWrong : ChangeSpec := { name := "spaceFrees", fn := fun _ => fun
  | [d1, d2, d3] => { results := [.lit (.bool false)], args := [d1, d2, d3] }
  | _ => none }
def SpaceFreesWrongFalsely : Prop := spaceFreesRow.holds Try.pinned (OpenSpec.ofChange spaceFreesWrong)

/-- 'taffraillaw04.SpaceDrops': WHATEVER THE INPUT: true; the input reads as it did. -/
def spaceDropsSpec : ChangeSpec := { name := "spaceDrops", fn := fun _ => fun
  | [d1, d2, d3] => { results := [.lit (.bool true)], args := [d1, d2, d3] }
  | _ => none }
def spaceDropsRow : OpenClaim := { program := "ytlbgnmcjdmdjpaa", sum := "30af8f8005610b182f9b49ab05dec6a9e90bf6c60e80f1e87ea2be9eeead65fa", func := "taffrail/taffraillaw04.SpaceDrops", spec := "spaceDrops", unfollowed := true, recurses := true, apart := false }
def SpaceDropsSaid : Prop := spaceDropsRow.holds Try.pinned (OpenSpec.ofChange spaceDropsSpec)

/-- ITS FALSE NEIGHBOUR: 'it returns false'. Refute it at one input. -/
def spaceDropsWrong : ChangeSpec := { name := "spaceDrops", fn := fun _ => fun
  | [d1, d2, d3] => { results := [.lit (.bool false)], args := [d1, d2, d3] }
  | _ => none }
def SpaceDropsWrongFalsely : Prop := spaceDropsRow.holds Try.pinned (OpenSpec.ofChange spaceDropsWrong)

/-- 'taffraillaw04.SpaceShares': WHATEVER THE INPUT: true; the input reads as it did. -/
def spaceSharesSpec : ChangeSpec := { name := "spaceShares", fn := fun _ => fun
  | [d1, d2, d3] => { results := [.lit (.bool true)], args := [d1, d2, d3] }
  | _ => none }
def spaceSharesRow : OpenClaim := { program := "ytlbgnmcjdmdjpaa", sum := "30af8f8005610b182f9b49ab05dec6a9e90bf6c60e80f1e87ea2be9eeead65fa", func := "taffrail/taffraillaw04.SpaceShares", spec := "spaceShares", inPlace := ["internal/abi.NoEscape", "internal/bytealg.MakeNoZero"], unfollowed := true, recurses := true, apart := false }
def SpaceSharesSaid : Prop := spaceSharesRow.holds Try.pinned (OpenSpec.ofChange spaceSharesSpec)

/-- ITS FALSE NEIGHBOUR: 'it returns false'. Refute it at one input. -/
def spaceSharesWrong : ChangeSpec := { name := "spaceShares", fn := fun _ => fun
  | [d1, d2, d3] => { results := [.lit (.bool false)], args := [d1, d2, d3] }
  | _ => none }
def SpaceSharesWrongFalsely : Prop := spaceSharesRow.holds Try.pinned (OpenSpec.ofChange spaceSharesWrong)

/- THE SECOND FORM. 'bulk': how many values and letters a reading holds, each counted each time it is reached (what is shared counts as often as it is met; a slice's spare places count too). A statement '..UptoSaid' is the law's where the arguments, and the package variables that the reading takes, are together of bulk at most 1048576: NARROWER than '..Said'. Prove '..Said' where nothing that the law and all that it calls make is longer than what came in: it says more and counts as full. Else prove '..UptoSaid'. A law counts once. -/
mutual
def uptoBulk {H : Type} : DataW H → Nat
  | .lit (.string bytes) => bytes.length + 1
  | .lit _ => 1
  | .nil => 1
  | .ptr d => uptoBulk d + 1
  | .slice elems spare => uptoBulkAll elems + uptoBulkAll spare + 1
  | .agg parts => uptoBulkAll parts + 1
  | .iface _ d => uptoBulk d + 1
  | .map entries => uptoBulkEntries entries + 1
  | .held _ => 1
def uptoBulkAll {H : Type} : List (DataW H) → Nat
  | [] => 0
  | d :: r => uptoBulk d + uptoBulkAll r
def uptoBulkEntries {H : Type} : List (Lit × DataW H) → Nat
  | [] => 0
  | x :: r => uptoBulkEntry x + uptoBulkEntries r
def uptoBulkEntry {H : Type} : Lit × DataW H → Nat
  | (.string bytes, d) => bytes.length + uptoBulk d + 1
  | (_, d) => uptoBulk d + 1
 end
def uptoSmall : (H : Type) → List (DataW H) → Bool := fun _ ds => decide (uptoBulkAll ds ≤ 1048576)
def OpenSpec.upto (s : _root_.Go.ChangeSpec) : _root_.Go.OpenSpec := { _root_.Go.OpenSpec.ofChange s with cond := some uptoSmall }

/-- 'taffraillaw02.PtableFull', WHERE WHAT IT READS IS OF BULK AT MOST 1048576: true; the input reads as it did. -/
def ptableFullUptoRow : OpenClaim := { program := "ytlbgnmcjdmdjpaa", sum := "30af8f8005610b182f9b49ab05dec6a9e90bf6c60e80f1e87ea2be9eeead65fa", func := "taffrail/taffraillaw02.PtableFull", spec := "ptableFull", unfollowed := true, recurses := true, apart := false, narrowed := true }
def PtableFullUptoSaid : Prop := ptableFullUptoRow.holds Try.pinned (OpenSpec.upto ptableFullSpec)

/-- 'taffraillaw02.PtableApart', WHERE WHAT IT READS IS OF BULK AT MOST 1048576: true; the input reads as it did. -/
def ptableApartUptoRow : OpenClaim := { program := "ytlbgnmcjdmdjpaa", sum := "30af8f8005610b182f9b49ab05dec6a9e90bf6c60e80f1e87ea2be9eeead65fa", func := "taffrail/taffraillaw02.PtableApart", spec := "ptableApart", unfollowed := true, recurses := true, apart := false, narrowed := true }
def PtableApartUptoSaid : Prop := ptableApartUptoRow.holds Try.pinned (OpenSpec.upto ptableApartSpec)

/-- 'taffraillaw02.PtableCounts', WHERE WHAT IT READS IS OF BULK AT MOST 1048576: true; the input reads as it did. -/
def ptableCountsUptoRow : OpenClaim := { program := "ytlbgnmcjdmdjpaa", sum := "30af8f8005610b182f9b49ab05dec6a9e90bf6c60e80f1e87ea2be9eeead65fa", func := "taffrail/taffraillaw02.PtableCounts", spec := "ptableCounts", unfollowed := true, recurses := true, apart := false, narrowed := true }
def PtableCountsUptoSaid : Prop := ptableCountsUptoRow.holds Try.pinned (OpenSpec.upto ptableCountsSpec)

/-- 'taffraillaw02.PtableDoes', WHERE WHAT IT READS IS OF BULK AT MOST 1048576: true; the input reads as it did. -/
def ptableDoesUptoRow : OpenClaim := { program := "ytlbgnmcjdmdjpaa", sum := "30af8f8005610b182f9b49ab05dec6a9e90bf6c60e80f1e87ea2be9eeead65fa", func := "taffrail/taffraillaw02.PtableDoes", spec := "ptableDoes", unfollowed := true, recurses := true, apart := false, narrowed := true }
def PtableDoesUptoSaid : Prop := ptableDoesUptoRow.holds Try.pinned (OpenSpec.upto ptableDoesSpec)

/-- 'taffraillaw02.PtableEmpty', WHERE WHAT IT READS IS OF BULK AT MOST 1048576: true; the input reads as it did. -/
def ptableEmptyUptoRow : OpenClaim := { program := "ytlbgnmcjdmdjpaa", sum := "30af8f8005610b182f9b49ab05dec6a9e90bf6c60e80f1e87ea2be9eeead65fa", func := "taffrail/taffraillaw02.PtableEmpty", spec := "ptableEmpty", unfollowed := true, recurses := true, apart := false, narrowed := true }
def PtableEmptyUptoSaid : Prop := ptableEmptyUptoRow.holds Try.pinned (OpenSpec.upto ptableEmptySpec)

/-- 'taffraillaw02.PtableWrong', WHERE WHAT IT READS IS OF BULK AT MOST 1048576: true; the input reads as it did. -/
def ptableWrongUptoRow : OpenClaim := { program := "ytlbgnmcjdmdjpaa", sum := "30af8f8005610b182f9b49ab05dec6a9e90bf6c60e80f1e87ea2be9eeead65fa", func := "taffrail/taffraillaw02.PtableWrong", spec := "ptableWrong", unfollowed := true, recurses := true, apart := false, narrowed := true }
def PtableWrongUptoSaid : Prop := ptableWrongUptoRow.holds Try.pinned (OpenSpec.upto ptableWrongSpec)

/-- 'taffraillaw03.CopyioBack', WHERE WHAT IT READS IS OF BULK AT MOST 1048576: true; the input reads as it did. -/
def copyioBackUptoRow : OpenClaim := { program := "ytlbgnmcjdmdjpaa", sum := "30af8f8005610b182f9b49ab05dec6a9e90bf6c60e80f1e87ea2be9eeead65fa", func := "taffrail/taffraillaw03.CopyioBack", spec := "copyioBack", inPlace := ["internal/abi.NoEscape", "internal/bytealg.MakeNoZero"], unfollowed := true, recurses := true, apart := false, narrowed := true }
def CopyioBackUptoSaid : Prop := copyioBackUptoRow.holds Try.pinned (OpenSpec.upto copyioBackSpec)

/-- 'taffraillaw03.CopyioParts', WHERE WHAT IT READS IS OF BULK AT MOST 1048576: true; the input reads as it did. -/
def copyioPartsUptoRow : OpenClaim := { program := "ytlbgnmcjdmdjpaa", sum := "30af8f8005610b182f9b49ab05dec6a9e90bf6c60e80f1e87ea2be9eeead65fa", func := "taffrail/taffraillaw03.CopyioParts", spec := "copyioParts", inPlace := ["internal/abi.NoEscape", "internal/bytealg.MakeNoZero"], unfollowed := true, recurses := true, apart := false, narrowed := true }
def CopyioPartsUptoSaid : Prop := copyioPartsUptoRow.holds Try.pinned (OpenSpec.upto copyioPartsSpec)

/-- 'taffraillaw03.CopyioWrong', WHERE WHAT IT READS IS OF BULK AT MOST 1048576: true; the input reads as it did. -/
def copyioWrongUptoRow : OpenClaim := { program := "ytlbgnmcjdmdjpaa", sum := "30af8f8005610b182f9b49ab05dec6a9e90bf6c60e80f1e87ea2be9eeead65fa", func := "taffrail/taffraillaw03.CopyioWrong", spec := "copyioWrong", inPlace := ["internal/abi.NoEscape", "internal/bytealg.MakeNoZero"], unfollowed := true, recurses := true, apart := false, narrowed := true }
def CopyioWrongUptoSaid : Prop := copyioWrongUptoRow.holds Try.pinned (OpenSpec.upto copyioWrongSpec)

/-- 'taffraillaw03.CopyioLess', WHERE WHAT IT READS IS OF BULK AT MOST 1048576: true; the input reads as it did. -/
def copyioLessUptoRow : OpenClaim := { program := "ytlbgnmcjdmdjpaa", sum := "30af8f8005610b182f9b49ab05dec6a9e90bf6c60e80f1e87ea2be9eeead65fa", func := "taffrail/taffraillaw03.CopyioLess", spec := "copyioLess", inPlace := ["internal/abi.NoEscape", "internal/bytealg.MakeNoZero"], unfollowed := true, recurses := true, apart := false, narrowed := true }
def CopyioLessUptoSaid : Prop := copyioLessUptoRow.holds Try.pinned (OpenSpec.upto copyioLessSpec)

/-- 'taffraillaw04.SpaceImages', WHERE WHAT IT READS IS OF BULK AT MOST 1048576: true; the input reads as it did. -/
def spaceImagesUptoRow : OpenClaim := { program := "ytlbgnmcjdmdjpaa", sum := "30af8f8005610b182f9b49ab05dec6a9e90bf6c60e80f1e87ea2be9eeead65fa", func := "taffrail/taffraillaw04.SpaceImages", spec := "spaceImages", inPlace := ["internal/abi.NoEscape", "internal/bytealg.MakeNoZero"], unfollowed := true, recurses := true, apart := false, narrowed := true }
def SpaceImagesUptoSaid : Prop := spaceImagesUptoRow.holds Try.pinned (OpenSpec.upto spaceImagesSpec)

/-- 'taffraillaw04.SpaceGrows', WHERE WHAT IT READS IS OF BULK AT MOST 1048576: true; the input reads as it did. -/
def spaceGrowsUptoRow : OpenClaim := { program := "ytlbgnmcjdmdjpaa", sum := "30af8f8005610b182f9b49ab05dec6a9e90bf6c60e80f1e87ea2be9eeead65fa", func := "taffrail/taffraillaw04.SpaceGrows", spec := "spaceGrows", inPlace := ["internal/abi.NoEscape", "internal/bytealg.MakeNoZero"], unfollowed := true, recurses := true, apart := false, narrowed := true }
def SpaceGrowsUptoSaid : Prop := spaceGrowsUptoRow.holds Try.pinned (OpenSpec.upto spaceGrowsSpec)

/-- 'taffraillaw04.SpaceForks', WHERE WHAT IT READS IS OF BULK AT MOST 1048576: true; the input reads as it did. -/
def spaceForksUptoRow : OpenClaim := { program := "ytlbgnmcjdmdjpaa", sum := "30af8f8005610b182f9b49ab05dec6a9e90bf6c60e80f1e87ea2be9eeead65fa", func := "taffrail/taffraillaw04.SpaceForks", spec := "spaceForks", inPlace := ["internal/abi.NoEscape", "internal/bytealg.MakeNoZero"], unfollowed := true, recurses := true, apart := false, narrowed := true }
def SpaceForksUptoSaid : Prop := spaceForksUptoRow.holds Try.pinned (OpenSpec.upto spaceForksSpec)

/-- 'taffraillaw04.SpaceFrees', WHERE WHAT IT READS IS OF BULK AT MOST 1048576: true; the input reads as it did. -/
def spaceFreesUptoRow : OpenClaim := { program := "ytlbgnmcjdmdjpaa", sum := "30af8f8005610b182f9b49ab05dec6a9e90bf6c60e80f1e87ea2be9eeead65fa", func := "taffrail/taffraillaw04.SpaceFrees", spec := "spaceFrees", unfollowed := true, recurses := true, apart := false, narrowed := true }
def SpaceFreesUptoSaid : Prop := spaceFreesUptoRow.holds Try.pinned (OpenSpec.upto spaceFreesSpec)

/-- 'taffraillaw04.SpaceDrops', WHERE WHAT IT READS IS OF BULK AT MOST 1048576: true; the input reads as it did. -/
def spaceDropsUptoRow : OpenClaim := { program := "ytlbgnmcjdmdjpaa", sum := "30af8f8005610b182f9b49ab05dec6a9e90bf6c60e80f1e87ea2be9eeead65fa", func := "taffrail/taffraillaw04.SpaceDrops", spec := "spaceDrops", unfollowed := true, recurses := true, apart := false, narrowed := true }
def SpaceDropsUptoSaid : Prop := spaceDropsUptoRow.holds Try.pinned (OpenSpec.upto spaceDropsSpec)

/-- 'taffraillaw04.SpaceShares', WHERE WHAT IT READS IS OF BULK AT MOST 1048576: true; the input reads as it did. -/
def spaceSharesUptoRow : OpenClaim := { program := "ytlbgnmcjdmdjpaa", sum := "30af8f8005610b182f9b49ab05dec6a9e90bf6c60e80f1e87ea2be9eeead65fa", func := "taffrail/taffraillaw04.SpaceShares", spec := "spaceShares", inPlace := ["internal/abi.NoEscape", "internal/bytealg.MakeNoZero"], unfollowed := true, recurses := true, apart := false, narrowed := true }
def SpaceSharesUptoSaid : Prop := spaceSharesUptoRow.holds Try.pinned (OpenSpec.upto spaceSharesSpec)

end Rows
end Go.Proofs.Ytlbgnmcjdmdjpaa
