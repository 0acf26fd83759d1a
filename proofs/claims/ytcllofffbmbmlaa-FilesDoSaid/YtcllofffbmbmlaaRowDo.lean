/- The law FilesDo: for every input it returns true, and leaves its arguments as they were. No condition. -/
import Derived.Test.YtcllofffbmbmlaaRz
import Derived.Test.YtcllofffbmbmlaaSl
import Derived.Test.YtcllofffbmbmlaaRows
import Derived.Test.YtcllofffbmbmlaaChecked
import Derived.WalkKit
import Derived.ProofKit
import Derived.OpenShut
import Derived.ShutString
import Derived.ChangeOld
import Derived.Below
import Derived.SizedLaws
namespace Go.Proofs.Ytcllofffbmbmlaa.filesDo
open Go.ChangeShapes Go.WideShapes Go.ChangeAt Go.RowKit
open Go.ChangeMaps (open_string shut_string)
set_option linter.unusedVariables false
theorem own : ownKnob Try.prog.godebug = none := by kernel_rfl
theorem laidOut : laidOutB Try.prog = true := by kernel_rfl
set_option maxRecDepth 100000 in
theorem lifted (os : Os) (started : os.Started) (H : Type) (enc : TypeId × Value → H) :
    ReturnsInHanded {} Try.checked os 6 .any (Rows.filesDoSpec.pre6 enc Try.prog Try.f6 Rows.filesDoRow.domain false) (Rows.filesDoSpec.post enc Try.prog Try.f6 false true false false) := by
  refine returnsInHanded_of_change_sized (C := Try.checked) own started (by kernel_rfl) Try.func6
    (ChangeSpec.witness6 (enc := enc) (C := Try.checked) false ⟨#[], #[.slice none 0 0], []⟩ 8 (by kernel_rfl) (by kernel_rfl) (by kernel_rfl) (by kernel_rfl)) ?_
  intro W base args ds gs before hval0 hW hcnd hsz0 _
  have hsz : (DataW.weightsEach Try.prog (Try.f6.params.toList ++ Rows.filesDoSpec.plain.varTypes Try.prog) (ds ++ gs)).all (· ≤ reachBytes) = true := hsz0
  have hval : ∀ (j : Nat) t v, Try.f6.params[j]? = some t → args[j]? = some v → Value.okWide Try.prog W .any base t v := hval0
  have hW' := hW
  obtain ⟨p, q, hA0, hV, rfl, hfz, hnd⟩ := hW
  have hA : DataW.TrodAll enc Try.prog W 0 (fun _ => true) true Try.f6.params.toList args.toList ds p := hA0
  rw [Try.params6] at hA hval hsz
  obtain ⟨v0, vs0, d0, ds0, p0, q0, hargs, rfl, rfl, h0, r0⟩ := trodAll_cons hA
  obtain ⟨rfl, rfl, rfl⟩ := trodAll_nil r0
  obtain rfl : args = #[v0] := by cases args; simp_all
  obtain ⟨rfl, rfl⟩ := trodVars_none hV
  have k0 := h0
  have lt0 : ∀ x ∈ p0, x.block < W.heap.size := by obtain ⟨m, hm⟩ := k0; exact DataW.trod_lt m _ _ _ hm
  have w0 := hval 0 40 v0 rfl rfl
  obtain ⟨aa, la, ca, rfl⟩ := okWide_slice Try.underlying40 w0
  obtain ⟨fuel, hf⟩ := h0
  obtain ⟨a0, n0, c0, hva, hlen, hrows, hnil⟩ := rows_ints (P := Try.prog) (e := 42) (t' := 3) (n := 4) (nl := 5) Try.underlying40 (by kernel_rfl) (by kernel_rfl) Try.underlying3 hf
  cases hva
  clear hA0 hval0 hsz0 hsz
  refine (Calls.mono (do_walk W aa la ca hlen hrows hnil)) fun e W' ⟨he, same⟩ => ?_
  have bel := same.below
  subst he
  exact ⟨_, rfl, _, _, _, [], _, [], hW', trodAll_mk1 (shut_bool Try.underlying4 _), (trodAll_cons_mk (Below.trod laidOut (by kernel_rfl) (of_decide_eq_true (by kernel_rfl)) k0 bel lt0) trodAll_mk0), rfl, bel.frame _, fun h => by cases h⟩
theorem over : Rows.filesDoRow.holds Try.pinned (OpenSpec.ofChange Rows.filesDoSpec) :=
  OpenClaim.holds_of_wide 6 Try.f6 rfl rfl rfl rfl rfl rfl rfl ⟨rfl, rfl, rfl, rfl, rfl⟩ rfl rfl rfl rfl rfl (by kernel_rfl) Try.func6 (by kernel_rfl)
    (of_decide_eq_true (by kernel_rfl)) (by unfold Func.isWrapper; first | (rw [if_pos (by decide +kernel)]; kernel_rfl) | (rw [if_neg (by decide +kernel)]; exact ⟨rfl, rfl⟩))
    (fun os started H enc _ => lifted os started H enc)
theorem proved : Rows.FilesDoSaid := over
#print axioms proved
end Go.Proofs.Ytcllofffbmbmlaa.filesDo
namespace Go.Proofs.Ytcllofffbmbmlaa
/-- The row, under a short name, for the claim. -/
theorem filesDo_holds : Rows.FilesDoSaid := filesDo.proved
end Go.Proofs.Ytcllofffbmbmlaa
