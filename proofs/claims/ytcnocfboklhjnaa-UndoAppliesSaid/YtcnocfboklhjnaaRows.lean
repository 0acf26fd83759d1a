/-
  No cell of these rows narrows 'for every input' (looked for: loops, veiled, ifaces, maps, wideKeys, modest, calm, conditions, laid).
  DERIVED. THE GIVEN ROWS OF THIS SEAT. 7 by the template 'for every input the law returns true; each argument reads behind the call as it read before'; 0 by the template 'total and deterministic' (their statements: YtcnocfboklhjnaaTotals.lean).
  GIVEN WITH THE SEED: the statements are not yours to turn. If you find one false, say at which input.
  Laid BY PROGRAM, IN A SANDBOX (cutbox-rows.mjs): the forced cells as the released guide's own fill.sh prints them over the translation 99345189c1d03598… (all of the seat's roots in one cut). By AI agents, Wed Nov 11 2026. No macro, syntax, notation, axiom, sorry.
-/
import Derived.Test.YtcnocfboklhjnaaChecked
import GoSem.Claim
import GoSem.ClaimJoined
import GoSem.ClaimMapViews
import Derived.JoinedTies
import Derived.KernelRfl
namespace Go.Proofs.Ytcnocfboklhjnaa
/- THE CELL 'sum', in the pinned program and in every row, IS THE sha256 OF THE DUMP (.gsa) THAT YtcnocfboklhjnaaProg.lean LOADS. Nothing in Lean hashes anything: it is a label: what it is worth is what the hold of that sum in a sandbox is worth. -/
noncomputable def Try.pinned : Pinned := { name := "ytcnocfboklhjnaa", sum := "99345189c1d035983ffeba46d5b1534b63366a292b14a5702ed39446d6f258ca", checked := Try.checked }
namespace Rows
def none {H : Type} : Left H := { results := [], args := [] }

/-- 'taffraillaw14.UndoRecords': WHATEVER THE INPUT: true; the input reads as it did. -/
def undoRecordsSpec : ChangeSpec := { name := "undoRecords", fn := fun _ => fun
  | [d1, d2, d3] => { results := [.lit (.bool true)], args := [d1, d2, d3] }
  | _ => none }
def undoRecordsRow : OpenClaim := { program := "ytcnocfboklhjnaa", sum := "99345189c1d035983ffeba46d5b1534b63366a292b14a5702ed39446d6f258ca", func := "taffrail/taffraillaw14.UndoRecords", spec := "undoRecords", unfollowed := true, recurses := true, plainKeys := false, apart := false }
def UndoRecordsSaid : Prop := undoRecordsRow.holds Try.pinned (OpenSpec.ofChange undoRecordsSpec)

/-- ITS FALSE NEIGHBOUR: 'it returns false'. Refute it at one input. -/
def undoRecordsWrong : ChangeSpec := { name := "undoRecords", fn := fun _ => fun
  | [d1, d2, d3] => { results := [.lit (.bool false)], args := [d1, d2, d3] }
  | _ => none }
def UndoRecordsWrongFalsely : Prop := undoRecordsRow.holds Try.pinned (OpenSpec.ofChange undoRecordsWrong)

/-- 'taffraillaw14.UndoBack': WHATEVER THE INPUT: true; the input reads as it did. -/
def undoBackSpec : ChangeSpec := { name := "undoBack", fn := fun _ => fun
  | [d1, d2] => { results := [.lit (.bool true)], args := [d1, d2] }
  | _ => none }
def undoBackRow : OpenClaim := { program := "ytcnocfboklhjnaa", sum := "99345189c1d035983ffeba46d5b1534b63366a292b14a5702ed39446d6f258ca", func := "taffrail/taffraillaw14.UndoBack", spec := "undoBack", unfollowed := true, recurses := true, plainKeys := false, apart := false }
def UndoBackSaid : Prop := undoBackRow.holds Try.pinned (OpenSpec.ofChange undoBackSpec)

/-- ITS FALSE NEIGHBOUR: 'it returns false'. Refute it at one input. -/
def undoBackWrong : ChangeSpec := { name := "undoBack", fn := fun _ => fun
  | [d1, d2] => { results := [.lit (.bool false)], args := [d1, d2] }
  | _ => none }
def UndoBackWrongFalsely : Prop := undoBackRow.holds Try.pinned (OpenSpec.ofChange undoBackWrong)

/-- 'taffraillaw14.UndoParts': WHATEVER THE INPUT: true; the input reads as it did. -/
def undoPartsSpec : ChangeSpec := { name := "undoParts", fn := fun _ => fun
  | [d1, d2, d3, d4] => { results := [.lit (.bool true)], args := [d1, d2, d3, d4] }
  | _ => none }
def undoPartsRow : OpenClaim := { program := "ytcnocfboklhjnaa", sum := "99345189c1d035983ffeba46d5b1534b63366a292b14a5702ed39446d6f258ca", func := "taffrail/taffraillaw14.UndoParts", spec := "undoParts", unfollowed := true, recurses := true, plainKeys := false, apart := false }
def UndoPartsSaid : Prop := undoPartsRow.holds Try.pinned (OpenSpec.ofChange undoPartsSpec)

/-- ITS FALSE NEIGHBOUR: 'it returns false'. Refute it at one input. -/
def undoPartsWrong : ChangeSpec := { name := "undoParts", fn := fun _ => fun
  | [d1, d2, d3, d4] => { results := [.lit (.bool false)], args := [d1, d2, d3, d4] }
  | _ => none }
def UndoPartsWrongFalsely : Prop := undoPartsRow.holds Try.pinned (OpenSpec.ofChange undoPartsWrong)

/-- 'taffraillaw14.UndoZero': WHATEVER THE INPUT: true; the input reads as it did. -/
def undoZeroSpec : ChangeSpec := { name := "undoZero", fn := fun _ => fun
  | [d1, d2, d3, d4] => { results := [.lit (.bool true)], args := [d1, d2, d3, d4] }
  | _ => none }
def undoZeroRow : OpenClaim := { program := "ytcnocfboklhjnaa", sum := "99345189c1d035983ffeba46d5b1534b63366a292b14a5702ed39446d6f258ca", func := "taffrail/taffraillaw14.UndoZero", spec := "undoZero", unfollowed := true, recurses := true, plainKeys := false, apart := false }
def UndoZeroSaid : Prop := undoZeroRow.holds Try.pinned (OpenSpec.ofChange undoZeroSpec)

/-- ITS FALSE NEIGHBOUR: 'it returns false'. Refute it at one input. -/
def undoZeroWrong : ChangeSpec := { name := "undoZero", fn := fun _ => fun
  | [d1, d2, d3, d4] => { results := [.lit (.bool false)], args := [d1, d2, d3, d4] }
  | _ => none }
def UndoZeroWrongFalsely : Prop := undoZeroRow.holds Try.pinned (OpenSpec.ofChange undoZeroWrong)

/-- 'taffraillaw14.UndoOwn': WHATEVER THE INPUT: true; the input reads as it did. -/
def undoOwnSpec : ChangeSpec := { name := "undoOwn", fn := fun _ => fun
  | [d1, d2, d3, d4, d5] => { results := [.lit (.bool true)], args := [d1, d2, d3, d4, d5] }
  | _ => none }
def undoOwnRow : OpenClaim := { program := "ytcnocfboklhjnaa", sum := "99345189c1d035983ffeba46d5b1534b63366a292b14a5702ed39446d6f258ca", func := "taffrail/taffraillaw14.UndoOwn", spec := "undoOwn", unfollowed := true, recurses := true, plainKeys := false, apart := false }
def UndoOwnSaid : Prop := undoOwnRow.holds Try.pinned (OpenSpec.ofChange undoOwnSpec)

/-- ITS FALSE NEIGHBOUR: 'it returns false'. Refute it at one input. -/
def undoOwnWrong : ChangeSpec := { name := "undoOwn", fn := fun _ => fun
  | [d1, d2, d3, d4, d5] => { results := [.lit (.bool false)], args := [d1, d2, d3, d4, d5] }
  | _ => none }
def UndoOwnWrongFalsely : Prop := undoOwnRow.holds Try.pinned (OpenSpec.ofChange undoOwnWrong)

/-- 'taffraillaw14.UndoClears': WHATEVER THE INPUT: true; the input reads as it did. -/
def undoClearsSpec : ChangeSpec := { name := "undoClears", fn := fun _ => fun
  | [d1, d2, d3, d4, d5] => { results := [.lit (.bool true)], args := [d1, d2, d3, d4, d5] }
  | _ => none }
def undoClearsRow : OpenClaim := { program := "ytcnocfboklhjnaa", sum := "99345189c1d035983ffeba46d5b1534b63366a292b14a5702ed39446d6f258ca", func := "taffrail/taffraillaw14.UndoClears", spec := "undoClears", unfollowed := true, recurses := true, plainKeys := false, apart := false }
def UndoClearsSaid : Prop := undoClearsRow.holds Try.pinned (OpenSpec.ofChange undoClearsSpec)

/-- ITS FALSE NEIGHBOUR: 'it returns false'. Refute it at one input. -/
def undoClearsWrong : ChangeSpec := { name := "undoClears", fn := fun _ => fun
  | [d1, d2, d3, d4, d5] => { results := [.lit (.bool false)], args := [d1, d2, d3, d4, d5] }
  | _ => none }
def UndoClearsWrongFalsely : Prop := undoClearsRow.holds Try.pinned (OpenSpec.ofChange undoClearsWrong)

/-- 'taffraillaw14.UndoApplies': WHATEVER THE INPUT: true; the input reads as it did. -/
def undoAppliesSpec : ChangeSpec := { name := "undoApplies", fn := fun _ => fun
  | [d1, d2, d3, d4] => { results := [.lit (.bool true)], args := [d1, d2, d3, d4] }
  | _ => none }
def undoAppliesRow : OpenClaim := { program := "ytcnocfboklhjnaa", sum := "99345189c1d035983ffeba46d5b1534b63366a292b14a5702ed39446d6f258ca", func := "taffrail/taffraillaw14.UndoApplies", spec := "undoApplies", unfollowed := true, recurses := true, plainKeys := false, apart := false }
def UndoAppliesSaid : Prop := undoAppliesRow.holds Try.pinned (OpenSpec.ofChange undoAppliesSpec)

/-- ITS FALSE NEIGHBOUR: 'it returns false'. Refute it at one input. -/
def undoAppliesWrong : ChangeSpec := { name := "undoApplies", fn := fun _ => fun
  | [d1, d2, d3, d4] => { results := [.lit (.bool false)], args := [d1, d2, d3, d4] }
  | _ => none }
def UndoAppliesWrongFalsely : Prop := undoAppliesRow.holds Try.pinned (OpenSpec.ofChange undoAppliesWrong)

/- THE SECOND FORM. 'bulk': how many values and letters a reading holds, each counted each time it is reached (what is shared counts as often as it is met; a slice's spare places count too). A statement '..UptoSaid' is the law's where the arguments, and the package variables that the reading takes, are together of bulk at most 1048576: NARROWER than '..Said'. Prove '..Said' where nothing that the law and all that it calls make is longer than what came in: it says more and counts as full. Else prove '..UptoSaid'. A law counts once. -/
mutual
def uptoBulk {H : Type} : DataW H → Nat
  | .lit (.string bytes) => bytes.length + 1
  | .lit _ => 1
  | .nil => 1
  | .ptr d => uptoBulk d + 1
  | .slice elems spare => uptoBulkAll elems + uptoBulkAll spare + 1
  | .agg parts => uptoBulkAll parts + 1
  | .iface _ d => uptoBulk d + 1
  | .map entries => uptoBulkEntries entries + 1
  | .held _ => 1
def uptoBulkAll {H : Type} : List (DataW H) → Nat
  | [] => 0
  | d :: r => uptoBulk d + uptoBulkAll r
def uptoBulkEntries {H : Type} : List (Lit × DataW H) → Nat
  | [] => 0
  | x :: r => uptoBulkEntry x + uptoBulkEntries r
def uptoBulkEntry {H : Type} : Lit × DataW H → Nat
  | (.string bytes, d) => bytes.length + uptoBulk d + 1
  | (_, d) => uptoBulk d + 1
 end
def uptoSmall : (H : Type) → List (DataW H) → Bool := fun _ ds => decide (uptoBulkAll ds ≤ 1048576)
def OpenSpec.upto (s : _root_.Go.ChangeSpec) : _root_.Go.OpenSpec := { _root_.Go.OpenSpec.ofChange s with cond := some uptoSmall }

/-- 'taffraillaw14.UndoRecords', WHERE WHAT IT READS IS OF BULK AT MOST 1048576: true; the input reads as it did. -/
def undoRecordsUptoRow : OpenClaim := { program := "ytcnocfboklhjnaa", sum := "99345189c1d035983ffeba46d5b1534b63366a292b14a5702ed39446d6f258ca", func := "taffrail/taffraillaw14.UndoRecords", spec := "undoRecords", unfollowed := true, recurses := true, plainKeys := false, apart := false, narrowed := true }
def UndoRecordsUptoSaid : Prop := undoRecordsUptoRow.holds Try.pinned (OpenSpec.upto undoRecordsSpec)

/-- 'taffraillaw14.UndoBack', WHERE WHAT IT READS IS OF BULK AT MOST 1048576: true; the input reads as it did. -/
def undoBackUptoRow : OpenClaim := { program := "ytcnocfboklhjnaa", sum := "99345189c1d035983ffeba46d5b1534b63366a292b14a5702ed39446d6f258ca", func := "taffrail/taffraillaw14.UndoBack", spec := "undoBack", unfollowed := true, recurses := true, plainKeys := false, apart := false, narrowed := true }
def UndoBackUptoSaid : Prop := undoBackUptoRow.holds Try.pinned (OpenSpec.upto undoBackSpec)

/-- 'taffraillaw14.UndoParts', WHERE WHAT IT READS IS OF BULK AT MOST 1048576: true; the input reads as it did. -/
def undoPartsUptoRow : OpenClaim := { program := "ytcnocfboklhjnaa", sum := "99345189c1d035983ffeba46d5b1534b63366a292b14a5702ed39446d6f258ca", func := "taffrail/taffraillaw14.UndoParts", spec := "undoParts", unfollowed := true, recurses := true, plainKeys := false, apart := false, narrowed := true }
def UndoPartsUptoSaid : Prop := undoPartsUptoRow.holds Try.pinned (OpenSpec.upto undoPartsSpec)

/-- 'taffraillaw14.UndoZero', WHERE WHAT IT READS IS OF BULK AT MOST 1048576: true; the input reads as it did. -/
def undoZeroUptoRow : OpenClaim := { program := "ytcnocfboklhjnaa", sum := "99345189c1d035983ffeba46d5b1534b63366a292b14a5702ed39446d6f258ca", func := "taffrail/taffraillaw14.UndoZero", spec := "undoZero", unfollowed := true, recurses := true, plainKeys := false, apart := false, narrowed := true }
def UndoZeroUptoSaid : Prop := undoZeroUptoRow.holds Try.pinned (OpenSpec.upto undoZeroSpec)

/-- 'taffraillaw14.UndoOwn', WHERE WHAT IT READS IS OF BULK AT MOST 1048576: true; the input reads as it did. -/
def undoOwnUptoRow : OpenClaim := { program := "ytcnocfboklhjnaa", sum := "99345189c1d035983ffeba46d5b1534b63366a292b14a5702ed39446d6f258ca", func := "taffrail/taffraillaw14.UndoOwn", spec := "undoOwn", unfollowed := true, recurses := true, plainKeys := false, apart := false, narrowed := true }
def UndoOwnUptoSaid : Prop := undoOwnUptoRow.holds Try.pinned (OpenSpec.upto undoOwnSpec)

/-- 'taffraillaw14.UndoClears', WHERE WHAT IT READS IS OF BULK AT MOST 1048576: true; the input reads as it did. -/
def undoClearsUptoRow : OpenClaim := { program := "ytcnocfboklhjnaa", sum := "99345189c1d035983ffeba46d5b1534b63366a292b14a5702ed39446d6f258ca", func := "taffrail/taffraillaw14.UndoClears", spec := "undoClears", unfollowed := true, recurses := true, plainKeys := false, apart := false, narrowed := true }
def UndoClearsUptoSaid : Prop := undoClearsUptoRow.holds Try.pinned (OpenSpec.upto undoClearsSpec)

/-- 'taffraillaw14.UndoApplies', WHERE WHAT IT READS IS OF BULK AT MOST 1048576: true; the input reads as it did. -/
def undoAppliesUptoRow : OpenClaim := { program := "ytcnocfboklhjnaa", sum := "99345189c1d035983ffeba46d5b1534b63366a292b14a5702ed39446d6f258ca", func := "taffrail/taffraillaw14.UndoApplies", spec := "undoApplies", unfollowed := true, recurses := true, plainKeys := false, apart := false, narrowed := true }
def UndoAppliesUptoSaid : Prop := undoAppliesUptoRow.holds Try.pinned (OpenSpec.upto undoAppliesSpec)

end Rows
end Go.Proofs.Ytcnocfboklhjnaa
