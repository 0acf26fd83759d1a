/-
  No cell of these rows narrows 'for every input' (looked for: loops, veiled, ifaces, maps, wideKeys, modest, calm, conditions, laid).
  DERIVED. THE GIVEN ROWS OF THIS SEAT. 7 by the template 'for every input the law returns true; each argument reads behind the call as it read before'; 0 by the template 'total and deterministic' (their statements: YtaeabeofpkfadaaTotals.lean).
  GIVEN WITH THE SEED: the statements are not yours to turn. If you find one false, say at which input.
  Laid BY PROGRAM, IN A SANDBOX (cutbox-rows.mjs): the forced cells as the released guide's own fill.sh prints them over the translation db71d75c1f77e408… (all of the seat's roots in one cut). By AI agents, Wed Nov 11 2026. No macro, syntax, notation, axiom, sorry.
-/
import Derived.Test.YtaeabeofpkfadaaChecked
import GoSem.Claim
import GoSem.ClaimJoined
import GoSem.ClaimMapViews
import Derived.JoinedTies
import Derived.KernelRfl
namespace Go.Proofs.Ytaeabeofpkfadaa
/- THE CELL 'sum', in the pinned program and in every row, IS THE sha256 OF THE DUMP (.gsa) THAT YtaeabeofpkfadaaProg.lean LOADS. Nothing in Lean hashes anything: it is a label: what it is worth is what the hold of that sum in a sandbox is worth. -/
noncomputable def Try.pinned : Pinned := { name := "ytaeabeofpkfadaa", sum := "db71d75c1f77e4085bb376fa99fed654cef722db4c0511bb12d50a8fb3f6304d", checked := Try.checked }
namespace Rows
def none {H : Type} : Left H := { results := [], args := [] }

/-- 'taffraillaw06.ProcMany': WHATEVER THE INPUT: true; the input reads as it did. -/
def procManySpec : ChangeSpec := { name := "procMany", fn := fun _ => fun
  | [d] => { results := [.lit (.bool true)], args := [d] }
  | _ => none }
def procManyRow : OpenClaim := { program := "ytaeabeofpkfadaa", sum := "db71d75c1f77e4085bb376fa99fed654cef722db4c0511bb12d50a8fb3f6304d", func := "taffrail/taffraillaw06.ProcMany", spec := "procMany", unfollowed := true, recurses := true, apart := false }
def ProcManySaid : Prop := procManyRow.holds Try.pinned (OpenSpec.ofChange procManySpec)

/-- ITS FALSE NEIGHBOUR: 'it returns false'. Refute it at one input. -/
def procManyWrong : ChangeSpec := { name := "procMany", fn := fun _ => fun
  | [d] => { results := [.lit (.bool false)], args := [d] }
  | _ => none }
def ProcManyWrongFalsely : Prop := procManyRow.holds Try.pinned (OpenSpec.ofChange procManyWrong)

/-- 'taffraillaw06.ProcReaps': WHATEVER THE INPUT: true; the input reads as it did. -/
def procReapsSpec : ChangeSpec := { name := "procReaps", fn := fun _ => fun
  | [d1, d2] => { results := [.lit (.bool true)], args := [d1, d2] }
  | _ => none }
def procReapsRow : OpenClaim := { program := "ytaeabeofpkfadaa", sum := "db71d75c1f77e4085bb376fa99fed654cef722db4c0511bb12d50a8fb3f6304d", func := "taffrail/taffraillaw06.ProcReaps", spec := "procReaps", unfollowed := true, recurses := true, apart := false }
def ProcReapsSaid : Prop := procReapsRow.holds Try.pinned (OpenSpec.ofChange procReapsSpec)

/-- ITS FALSE NEIGHBOUR: 'it returns false'. Refute it at one input. -/
def procReapsWrong : ChangeSpec := { name := "procReaps", fn := fun _ => fun
  | [d1, d2] => { results := [.lit (.bool false)], args := [d1, d2] }
  | _ => none }
def ProcReapsWrongFalsely : Prop := procReapsRow.holds Try.pinned (OpenSpec.ofChange procReapsWrong)

/-- 'taffraillaw06.ProcDoes': WHATEVER THE INPUT: true; the input reads as it did. -/
def procDoesSpec : ChangeSpec := { name := "procDoes", fn := fun _ => fun
  | [d] => { results := [.lit (.bool true)], args := [d] }
  | _ => none }
def procDoesRow : OpenClaim := { program := "ytaeabeofpkfadaa", sum := "db71d75c1f77e4085bb376fa99fed654cef722db4c0511bb12d50a8fb3f6304d", func := "taffrail/taffraillaw06.ProcDoes", spec := "procDoes", unfollowed := true, recurses := true, apart := false }
def ProcDoesSaid : Prop := procDoesRow.holds Try.pinned (OpenSpec.ofChange procDoesSpec)

/-- ITS FALSE NEIGHBOUR: 'it returns false'. Refute it at one input. -/
def procDoesWrong : ChangeSpec := { name := "procDoes", fn := fun _ => fun
  | [d] => { results := [.lit (.bool false)], args := [d] }
  | _ => none }
def ProcDoesWrongFalsely : Prop := procDoesRow.holds Try.pinned (OpenSpec.ofChange procDoesWrong)

/-- 'taffraillaw06.ProcNone': WHATEVER THE INPUT: true; the input reads as it did. -/
def procNoneSpec : ChangeSpec := { name := "procNone", fn := fun _ => fun
  | [d] => { results := [.lit (.bool true)], args := [d] }
  | _ => none }
def procNoneRow : OpenClaim := { program := "ytaeabeofpkfadaa", sum := "db71d75c1f77e4085bb376fa99fed654cef722db4c0511bb12d50a8fb3f6304d", func := "taffrail/taffraillaw06.ProcNone", spec := "procNone", unfollowed := true, recurses := true, apart := false }
def ProcNoneSaid : Prop := procNoneRow.holds Try.pinned (OpenSpec.ofChange procNoneSpec)

/-- ITS FALSE NEIGHBOUR: 'it returns false'. Refute it at one input. -/
def procNoneWrong : ChangeSpec := { name := "procNone", fn := fun _ => fun
  | [d] => { results := [.lit (.bool false)], args := [d] }
  | _ => none }
def ProcNoneWrongFalsely : Prop := procNoneRow.holds Try.pinned (OpenSpec.ofChange procNoneWrong)

/-- 'taffraillaw06.ProcParents': WHATEVER THE INPUT: true; the input reads as it did. -/
def procParentsSpec : ChangeSpec := { name := "procParents", fn := fun _ => fun
  | [d] => { results := [.lit (.bool true)], args := [d] }
  | _ => none }
def procParentsRow : OpenClaim := { program := "ytaeabeofpkfadaa", sum := "db71d75c1f77e4085bb376fa99fed654cef722db4c0511bb12d50a8fb3f6304d", func := "taffrail/taffraillaw06.ProcParents", spec := "procParents", unfollowed := true, recurses := true, apart := false }
def ProcParentsSaid : Prop := procParentsRow.holds Try.pinned (OpenSpec.ofChange procParentsSpec)

/-- ITS FALSE NEIGHBOUR: 'it returns false'. Refute it at one input. -/
def procParentsWrong : ChangeSpec := { name := "procParents", fn := fun _ => fun
  | [d] => { results := [.lit (.bool false)], args := [d] }
  | _ => none }
def ProcParentsWrongFalsely : Prop := procParentsRow.holds Try.pinned (OpenSpec.ofChange procParentsWrong)

/-- 'taffraillaw06.ProcZombies': WHATEVER THE INPUT: true; the input reads as it did. -/
def procZombiesSpec : ChangeSpec := { name := "procZombies", fn := fun _ => fun
  | [d] => { results := [.lit (.bool true)], args := [d] }
  | _ => none }
def procZombiesRow : OpenClaim := { program := "ytaeabeofpkfadaa", sum := "db71d75c1f77e4085bb376fa99fed654cef722db4c0511bb12d50a8fb3f6304d", func := "taffrail/taffraillaw06.ProcZombies", spec := "procZombies", unfollowed := true, recurses := true, apart := false }
def ProcZombiesSaid : Prop := procZombiesRow.holds Try.pinned (OpenSpec.ofChange procZombiesSpec)

/-- ITS FALSE NEIGHBOUR: 'it returns false'. Refute it at one input. -/
def procZombiesWrong : ChangeSpec := { name := "procZombies", fn := fun _ => fun
  | [d] => { results := [.lit (.bool false)], args := [d] }
  | _ => none }
def ProcZombiesWrongFalsely : Prop := procZombiesRow.holds Try.pinned (OpenSpec.ofChange procZombiesWrong)

/-- 'taffraillaw06.ProcSleeps': WHATEVER THE INPUT: true; the input reads as it did. -/
def procSleepsSpec : ChangeSpec := { name := "procSleeps", fn := fun _ => fun
  | [d1, d2] => { results := [.lit (.bool true)], args := [d1, d2] }
  | _ => none }
def procSleepsRow : OpenClaim := { program := "ytaeabeofpkfadaa", sum := "db71d75c1f77e4085bb376fa99fed654cef722db4c0511bb12d50a8fb3f6304d", func := "taffrail/taffraillaw06.ProcSleeps", spec := "procSleeps", unfollowed := true, recurses := true, apart := false }
def ProcSleepsSaid : Prop := procSleepsRow.holds Try.pinned (OpenSpec.ofChange procSleepsSpec)

/-- ITS FALSE NEIGHBOUR: 'it returns false'. Refute it at one input. -/
def procSleepsWrong : ChangeSpec := { name := "procSleeps", fn := fun _ => fun
  | [d1, d2] => { results := [.lit (.bool false)], args := [d1, d2] }
  | _ => none }
def ProcSleepsWrongFalsely : Prop := procSleepsRow.holds Try.pinned (OpenSpec.ofChange procSleepsWrong)

/- THE SECOND FORM. 'bulk': how many values and letters a reading holds, each counted each time it is reached (what is shared counts as often as it is met; a slice's spare places count too). A statement '..UptoSaid' is the law's where the arguments, and the package variables that the reading takes, are together of bulk at most 1048576: NARROWER than '..Said'. Prove '..Said' where nothing that the law and all that it calls make is longer than what came in: it says more and counts as full. Else prove '..UptoSaid'. A law counts once. -/
mutual
def uptoBulk {H : Type} : DataW H → Nat
  | .lit (.string bytes) => bytes.length + 1
  | .lit _ => 1
  | .nil => 1
  | .ptr d => uptoBulk d + 1
  | .slice elems spare => uptoBulkAll elems + uptoBulkAll spare + 1
  | .agg parts => uptoBulkAll parts + 1
  | .iface _ d => uptoBulk d + 1
  | .map entries => uptoBulkEntries entries + 1
  | .held _ => 1
def uptoBulkAll {H : Type} : List (DataW H) → Nat
  | [] => 0
  | d :: r => uptoBulk d + uptoBulkAll r
def uptoBulkEntries {H : Type} : List (Lit × DataW H) → Nat
  | [] => 0
  | x :: r => uptoBulkEntry x + uptoBulkEntries r
def uptoBulkEntry {H : Type} : Lit × DataW H → Nat
  | (.string bytes, d) => bytes.length + uptoBulk d + 1
  | (_, d) => uptoBulk d + 1
 end
def uptoSmall : (H : Type) → List (DataW H) → Bool := fun _ ds => decide (uptoBulkAll ds ≤ 1048576)
def OpenSpec.upto (s : _root_.Go.ChangeSpec) : _root_.Go.OpenSpec := { _root_.Go.OpenSpec.ofChange s with cond := some uptoSmall }

/-- 'taffraillaw06.ProcMany', WHERE WHAT IT READS IS OF BULK AT MOST 1048576: true; the input reads as it did. -/
def procManyUptoRow : OpenClaim := { program := "ytaeabeofpkfadaa", sum := "db71d75c1f77e4085bb376fa99fed654cef722db4c0511bb12d50a8fb3f6304d", func := "taffrail/taffraillaw06.ProcMany", spec := "procMany", unfollowed := true, recurses := true, apart := false, narrowed := true }
def ProcManyUptoSaid : Prop := procManyUptoRow.holds Try.pinned (OpenSpec.upto procManySpec)

/-- 'taffraillaw06.ProcReaps', WHERE WHAT IT READS IS OF BULK AT MOST 1048576: true; the input reads as it did. -/
def procReapsUptoRow : OpenClaim := { program := "ytaeabeofpkfadaa", sum := "db71d75c1f77e4085bb376fa99fed654cef722db4c0511bb12d50a8fb3f6304d", func := "taffrail/taffraillaw06.ProcReaps", spec := "procReaps", unfollowed := true, recurses := true, apart := false, narrowed := true }
def ProcReapsUptoSaid : Prop := procReapsUptoRow.holds Try.pinned (OpenSpec.upto procReapsSpec)

/-- 'taffraillaw06.ProcDoes', WHERE WHAT IT READS IS OF BULK AT MOST 1048576: true; the input reads as it did. -/
def procDoesUptoRow : OpenClaim := { program := "ytaeabeofpkfadaa", sum := "db71d75c1f77e4085bb376fa99fed654cef722db4c0511bb12d50a8fb3f6304d", func := "taffrail/taffraillaw06.ProcDoes", spec := "procDoes", unfollowed := true, recurses := true, apart := false, narrowed := true }
def ProcDoesUptoSaid : Prop := procDoesUptoRow.holds Try.pinned (OpenSpec.upto procDoesSpec)

/-- 'taffraillaw06.ProcNone', WHERE WHAT IT READS IS OF BULK AT MOST 1048576: true; the input reads as it did. -/
def procNoneUptoRow : OpenClaim := { program := "ytaeabeofpkfadaa", sum := "db71d75c1f77e4085bb376fa99fed654cef722db4c0511bb12d50a8fb3f6304d", func := "taffrail/taffraillaw06.ProcNone", spec := "procNone", unfollowed := true, recurses := true, apart := false, narrowed := true }
def ProcNoneUptoSaid : Prop := procNoneUptoRow.holds Try.pinned (OpenSpec.upto procNoneSpec)

/-- 'taffraillaw06.ProcParents', WHERE WHAT IT READS IS OF BULK AT MOST 1048576: true; the input reads as it did. -/
def procParentsUptoRow : OpenClaim := { program := "ytaeabeofpkfadaa", sum := "db71d75c1f77e4085bb376fa99fed654cef722db4c0511bb12d50a8fb3f6304d", func := "taffrail/taffraillaw06.ProcParents", spec := "procParents", unfollowed := true, recurses := true, apart := false, narrowed := true }
def ProcParentsUptoSaid : Prop := procParentsUptoRow.holds Try.pinned (OpenSpec.upto procParentsSpec)

/-- 'taffraillaw06.ProcZombies', WHERE WHAT IT READS IS OF BULK AT MOST 1048576: true; the input reads as it did. -/
def procZombiesUptoRow : OpenClaim := { program := "ytaeabeofpkfadaa", sum := "db71d75c1f77e4085bb376fa99fed654cef722db4c0511bb12d50a8fb3f6304d", func := "taffrail/taffraillaw06.ProcZombies", spec := "procZombies", unfollowed := true, recurses := true, apart := false, narrowed := true }
def ProcZombiesUptoSaid : Prop := procZombiesUptoRow.holds Try.pinned (OpenSpec.upto procZombiesSpec)

/-- 'taffraillaw06.ProcSleeps', WHERE WHAT IT READS IS OF BULK AT MOST 1048576: true; the input reads as it did. -/
def procSleepsUptoRow : OpenClaim := { program := "ytaeabeofpkfadaa", sum := "db71d75c1f77e4085bb376fa99fed654cef722db4c0511bb12d50a8fb3f6304d", func := "taffrail/taffraillaw06.ProcSleeps", spec := "procSleeps", unfollowed := true, recurses := true, apart := false, narrowed := true }
def ProcSleepsUptoSaid : Prop := procSleepsUptoRow.holds Try.pinned (OpenSpec.upto procSleepsSpec)

end Rows
end Go.Proofs.Ytaeabeofpkfadaa
