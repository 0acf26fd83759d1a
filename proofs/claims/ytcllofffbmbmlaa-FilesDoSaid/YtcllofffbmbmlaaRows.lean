/-
  No cell of these rows narrows 'for every input' (looked for: loops, veiled, ifaces, maps, wideKeys, modest, calm, conditions, laid).
  DERIVED. THE GIVEN ROWS OF THIS SEAT. 7 by the template 'for every input the law returns true; each argument reads behind the call as it read before'; 0 by the template 'total and deterministic' (their statements: YtcllofffbmbmlaaTotals.lean).
  GIVEN WITH THE SEED: the statements are not yours to turn. If you find one false, say at which input.
  Laid BY PROGRAM, IN A SANDBOX (cutbox-rows.mjs): the forced cells as the released guide's own fill.sh prints them over the translation cd1ac1e0c59065db… (all of the seat's roots in one cut). By AI agents, Wed Nov 11 2026. No macro, syntax, notation, axiom, sorry.
-/
import Derived.Test.YtcllofffbmbmlaaChecked
import GoSem.Claim
import GoSem.ClaimJoined
import GoSem.ClaimMapViews
import Derived.JoinedTies
import Derived.KernelRfl
namespace Go.Proofs.Ytcllofffbmbmlaa
/- THE CELL 'sum', in the pinned program and in every row, IS THE sha256 OF THE DUMP (.gsa) THAT YtcllofffbmbmlaaProg.lean LOADS. Nothing in Lean hashes anything: it is a label: what it is worth is what the hold of that sum in a sandbox is worth. -/
noncomputable def Try.pinned : Pinned := { name := "ytcllofffbmbmlaa", sum := "cd1ac1e0c59065dbd2ab11977e2fa2a3c5e772aba7de2fb7c7e4e19f2420af7a", checked := Try.checked }
namespace Rows
def none {H : Type} : Left H := { results := [], args := [] }

/-- 'taffraillaw09.FilesDups': WHATEVER THE INPUT: true; the input reads as it did. -/
def filesDupsSpec : ChangeSpec := { name := "filesDups", fn := fun _ => fun
  | [d1, d2] => { results := [.lit (.bool true)], args := [d1, d2] }
  | _ => none }
def filesDupsRow : OpenClaim := { program := "ytcllofffbmbmlaa", sum := "cd1ac1e0c59065dbd2ab11977e2fa2a3c5e772aba7de2fb7c7e4e19f2420af7a", func := "taffrail/taffraillaw09.FilesDups", spec := "filesDups", unfollowed := true, recurses := true, apart := false }
def FilesDupsSaid : Prop := filesDupsRow.holds Try.pinned (OpenSpec.ofChange filesDupsSpec)

/-- ITS FALSE NEIGHBOUR: 'it returns false'. Refute it at one input. -/
def filesDupsWrong : ChangeSpec := { name := "filesDups", fn := fun _ => fun
  | [d1, d2] => { results := [.lit (.bool false)], args := [d1, d2] }
  | _ => none }
def FilesDupsWrongFalsely : Prop := filesDupsRow.holds Try.pinned (OpenSpec.ofChange filesDupsWrong)

/-- 'taffraillaw09.FilesForks': WHATEVER THE INPUT: true; the input reads as it did. -/
def filesForksSpec : ChangeSpec := { name := "filesForks", fn := fun _ => fun
  | [d] => { results := [.lit (.bool true)], args := [d] }
  | _ => none }
def filesForksRow : OpenClaim := { program := "ytcllofffbmbmlaa", sum := "cd1ac1e0c59065dbd2ab11977e2fa2a3c5e772aba7de2fb7c7e4e19f2420af7a", func := "taffrail/taffraillaw09.FilesForks", spec := "filesForks", unfollowed := true, recurses := true, apart := false }
def FilesForksSaid : Prop := filesForksRow.holds Try.pinned (OpenSpec.ofChange filesForksSpec)

/-- ITS FALSE NEIGHBOUR: 'it returns false'. Refute it at one input. -/
def filesForksWrong : ChangeSpec := { name := "filesForks", fn := fun _ => fun
  | [d] => { results := [.lit (.bool false)], args := [d] }
  | _ => none }
def FilesForksWrongFalsely : Prop := filesForksRow.holds Try.pinned (OpenSpec.ofChange filesForksWrong)

/-- 'taffraillaw09.FilesApart': WHATEVER THE INPUT: true; the input reads as it did. -/
def filesApartSpec : ChangeSpec := { name := "filesApart", fn := fun _ => fun
  | [d1, d2, d3] => { results := [.lit (.bool true)], args := [d1, d2, d3] }
  | _ => none }
def filesApartRow : OpenClaim := { program := "ytcllofffbmbmlaa", sum := "cd1ac1e0c59065dbd2ab11977e2fa2a3c5e772aba7de2fb7c7e4e19f2420af7a", func := "taffrail/taffraillaw09.FilesApart", spec := "filesApart", unfollowed := true, recurses := true, apart := false }
def FilesApartSaid : Prop := filesApartRow.holds Try.pinned (OpenSpec.ofChange filesApartSpec)

/-- ITS FALSE NEIGHBOUR: 'it returns false'. Refute it at one input. -/
def filesApartWrong : ChangeSpec := { name := "filesApart", fn := fun _ => fun
  | [d1, d2, d3] => { results := [.lit (.bool false)], args := [d1, d2, d3] }
  | _ => none }
def FilesApartWrongFalsely : Prop := filesApartRow.holds Try.pinned (OpenSpec.ofChange filesApartWrong)

/-- 'taffraillaw09.FilesDo': WHATEVER THE INPUT: true; the input reads as it did. -/
def filesDoSpec : ChangeSpec := { name := "filesDo", fn := fun _ => fun
  | [d] => { results := [.lit (.bool true)], args := [d] }
  | _ => none }
def filesDoRow : OpenClaim := { program := "ytcllofffbmbmlaa", sum := "cd1ac1e0c59065dbd2ab11977e2fa2a3c5e772aba7de2fb7c7e4e19f2420af7a", func := "taffrail/taffraillaw09.FilesDo", spec := "filesDo", unfollowed := true, recurses := true, apart := false }
def FilesDoSaid : Prop := filesDoRow.holds Try.pinned (OpenSpec.ofChange filesDoSpec)

/-- ITS FALSE NEIGHBOUR: 'it returns false'. Refute it at one input. -/
def filesDoWrong : ChangeSpec := { name := "filesDo", fn := fun _ => fun
  | [d] => { results := [.lit (.bool false)], args := [d] }
  | _ => none }
def FilesDoWrongFalsely : Prop := filesDoRow.holds Try.pinned (OpenSpec.ofChange filesDoWrong)

/-- 'taffraillaw09.FilesNone': WHATEVER THE INPUT: true; the input reads as it did. -/
def filesNoneSpec : ChangeSpec := { name := "filesNone", fn := fun _ => fun
  | [d] => { results := [.lit (.bool true)], args := [d] }
  | _ => none }
def filesNoneRow : OpenClaim := { program := "ytcllofffbmbmlaa", sum := "cd1ac1e0c59065dbd2ab11977e2fa2a3c5e772aba7de2fb7c7e4e19f2420af7a", func := "taffrail/taffraillaw09.FilesNone", spec := "filesNone", unfollowed := true, recurses := true, apart := false }
def FilesNoneSaid : Prop := filesNoneRow.holds Try.pinned (OpenSpec.ofChange filesNoneSpec)

/-- ITS FALSE NEIGHBOUR: 'it returns false'. Refute it at one input. -/
def filesNoneWrong : ChangeSpec := { name := "filesNone", fn := fun _ => fun
  | [d] => { results := [.lit (.bool false)], args := [d] }
  | _ => none }
def FilesNoneWrongFalsely : Prop := filesNoneRow.holds Try.pinned (OpenSpec.ofChange filesNoneWrong)

/-- 'taffraillaw09.FilesGone': WHATEVER THE INPUT: true; the input reads as it did. -/
def filesGoneSpec : ChangeSpec := { name := "filesGone", fn := fun _ => fun
  | [d] => { results := [.lit (.bool true)], args := [d] }
  | _ => none }
def filesGoneRow : OpenClaim := { program := "ytcllofffbmbmlaa", sum := "cd1ac1e0c59065dbd2ab11977e2fa2a3c5e772aba7de2fb7c7e4e19f2420af7a", func := "taffrail/taffraillaw09.FilesGone", spec := "filesGone", unfollowed := true, recurses := true, apart := false }
def FilesGoneSaid : Prop := filesGoneRow.holds Try.pinned (OpenSpec.ofChange filesGoneSpec)

/-- ITS FALSE NEIGHBOUR: 'it returns false'. Refute it at one input. -/
def filesGoneWrong : ChangeSpec := { name := "filesGone", fn := fun _ => fun
  | [d] => { results := [.lit (.bool false)], args := [d] }
  | _ => none }
def FilesGoneWrongFalsely : Prop := filesGoneRow.holds Try.pinned (OpenSpec.ofChange filesGoneWrong)

/-- 'taffraillaw09.FilesLeast': WHATEVER THE INPUT: true; the input reads as it did. -/
def filesLeastSpec : ChangeSpec := { name := "filesLeast", fn := fun _ => fun
  | [d1, d2] => { results := [.lit (.bool true)], args := [d1, d2] }
  | _ => none }
def filesLeastRow : OpenClaim := { program := "ytcllofffbmbmlaa", sum := "cd1ac1e0c59065dbd2ab11977e2fa2a3c5e772aba7de2fb7c7e4e19f2420af7a", func := "taffrail/taffraillaw09.FilesLeast", spec := "filesLeast", unfollowed := true, recurses := true, apart := false }
def FilesLeastSaid : Prop := filesLeastRow.holds Try.pinned (OpenSpec.ofChange filesLeastSpec)

/-- ITS FALSE NEIGHBOUR: 'it returns false'. Refute it at one input. -/
def filesLeastWrong : ChangeSpec := { name := "filesLeast", fn := fun _ => fun
  | [d1, d2] => { results := [.lit (.bool false)], args := [d1, d2] }
  | _ => none }
def FilesLeastWrongFalsely : Prop := filesLeastRow.holds Try.pinned (OpenSpec.ofChange filesLeastWrong)

/- THE SECOND FORM. 'bulk': how many values and letters a reading holds, each counted each time it is reached (what is shared counts as often as it is met; a slice's spare places count too). A statement '..UptoSaid' is the law's where the arguments, and the package variables that the reading takes, are together of bulk at most 1048576: NARROWER than '..Said'. Prove '..Said' where nothing that the law and all that it calls make is longer than what came in: it says more and counts as full. Else prove '..UptoSaid'. A law counts once. -/
mutual
def uptoBulk {H : Type} : DataW H → Nat
  | .lit (.string bytes) => bytes.length + 1
  | .lit _ => 1
  | .nil => 1
  | .ptr d => uptoBulk d + 1
  | .slice elems spare => uptoBulkAll elems + uptoBulkAll spare + 1
  | .agg parts => uptoBulkAll parts + 1
  | .iface _ d => uptoBulk d + 1
  | .map entries => uptoBulkEntries entries + 1
  | .held _ => 1
def uptoBulkAll {H : Type} : List (DataW H) → Nat
  | [] => 0
  | d :: r => uptoBulk d + uptoBulkAll r
def uptoBulkEntries {H : Type} : List (Lit × DataW H) → Nat
  | [] => 0
  | x :: r => uptoBulkEntry x + uptoBulkEntries r
def uptoBulkEntry {H : Type} : Lit × DataW H → Nat
  | (.string bytes, d) => bytes.length + uptoBulk d + 1
  | (_, d) => uptoBulk d + 1
 end
def uptoSmall : (H : Type) → List (DataW H) → Bool := fun _ ds => decide (uptoBulkAll ds ≤ 1048576)
def OpenSpec.upto (s : _root_.Go.ChangeSpec) : _root_.Go.OpenSpec := { _root_.Go.OpenSpec.ofChange s with cond := some uptoSmall }

/-- 'taffraillaw09.FilesDups', WHERE WHAT IT READS IS OF BULK AT MOST 1048576: true; the input reads as it did. -/
def filesDupsUptoRow : OpenClaim := { program := "ytcllofffbmbmlaa", sum := "cd1ac1e0c59065dbd2ab11977e2fa2a3c5e772aba7de2fb7c7e4e19f2420af7a", func := "taffrail/taffraillaw09.FilesDups", spec := "filesDups", unfollowed := true, recurses := true, apart := false, narrowed := true }
def FilesDupsUptoSaid : Prop := filesDupsUptoRow.holds Try.pinned (OpenSpec.upto filesDupsSpec)

/-- 'taffraillaw09.FilesForks', WHERE WHAT IT READS IS OF BULK AT MOST 1048576: true; the input reads as it did. -/
def filesForksUptoRow : OpenClaim := { program := "ytcllofffbmbmlaa", sum := "cd1ac1e0c59065dbd2ab11977e2fa2a3c5e772aba7de2fb7c7e4e19f2420af7a", func := "taffrail/taffraillaw09.FilesForks", spec := "filesForks", unfollowed := true, recurses := true, apart := false, narrowed := true }
def FilesForksUptoSaid : Prop := filesForksUptoRow.holds Try.pinned (OpenSpec.upto filesForksSpec)

/-- 'taffraillaw09.FilesApart', WHERE WHAT IT READS IS OF BULK AT MOST 1048576: true; the input reads as it did. -/
def filesApartUptoRow : OpenClaim := { program := "ytcllofffbmbmlaa", sum := "cd1ac1e0c59065dbd2ab11977e2fa2a3c5e772aba7de2fb7c7e4e19f2420af7a", func := "taffrail/taffraillaw09.FilesApart", spec := "filesApart", unfollowed := true, recurses := true, apart := false, narrowed := true }
def FilesApartUptoSaid : Prop := filesApartUptoRow.holds Try.pinned (OpenSpec.upto filesApartSpec)

/-- 'taffraillaw09.FilesDo', WHERE WHAT IT READS IS OF BULK AT MOST 1048576: true; the input reads as it did. -/
def filesDoUptoRow : OpenClaim := { program := "ytcllofffbmbmlaa", sum := "cd1ac1e0c59065dbd2ab11977e2fa2a3c5e772aba7de2fb7c7e4e19f2420af7a", func := "taffrail/taffraillaw09.FilesDo", spec := "filesDo", unfollowed := true, recurses := true, apart := false, narrowed := true }
def FilesDoUptoSaid : Prop := filesDoUptoRow.holds Try.pinned (OpenSpec.upto filesDoSpec)

/-- 'taffraillaw09.FilesNone', WHERE WHAT IT READS IS OF BULK AT MOST 1048576: true; the input reads as it did. -/
def filesNoneUptoRow : OpenClaim := { program := "ytcllofffbmbmlaa", sum := "cd1ac1e0c59065dbd2ab11977e2fa2a3c5e772aba7de2fb7c7e4e19f2420af7a", func := "taffrail/taffraillaw09.FilesNone", spec := "filesNone", unfollowed := true, recurses := true, apart := false, narrowed := true }
def FilesNoneUptoSaid : Prop := filesNoneUptoRow.holds Try.pinned (OpenSpec.upto filesNoneSpec)

/-- 'taffraillaw09.FilesGone', WHERE WHAT IT READS IS OF BULK AT MOST 1048576: true; the input reads as it did. -/
def filesGoneUptoRow : OpenClaim := { program := "ytcllofffbmbmlaa", sum := "cd1ac1e0c59065dbd2ab11977e2fa2a3c5e772aba7de2fb7c7e4e19f2420af7a", func := "taffrail/taffraillaw09.FilesGone", spec := "filesGone", unfollowed := true, recurses := true, apart := false, narrowed := true }
def FilesGoneUptoSaid : Prop := filesGoneUptoRow.holds Try.pinned (OpenSpec.upto filesGoneSpec)

/-- 'taffraillaw09.FilesLeast', WHERE WHAT IT READS IS OF BULK AT MOST 1048576: true; the input reads as it did. -/
def filesLeastUptoRow : OpenClaim := { program := "ytcllofffbmbmlaa", sum := "cd1ac1e0c59065dbd2ab11977e2fa2a3c5e772aba7de2fb7c7e4e19f2420af7a", func := "taffrail/taffraillaw09.FilesLeast", spec := "filesLeast", unfollowed := true, recurses := true, apart := false, narrowed := true }
def FilesLeastUptoSaid : Prop := filesLeastUptoRow.holds Try.pinned (OpenSpec.upto filesLeastSpec)

end Rows
end Go.Proofs.Ytcllofffbmbmlaa
