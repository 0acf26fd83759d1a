/- The law CopyioWrong: for every input it returns true, and leaves its arguments as they were. No condition. -/
import Derived.Test.YtlbgnmcjdmdjpaaCw
import Derived.Test.YtlbgnmcjdmdjpaaSl
import Derived.Test.YtlbgnmcjdmdjpaaOq
import Derived.WalkKit
import Derived.ProofKit
import Derived.OpenShut
import Derived.ShutString
import Derived.ChangeOld
import Derived.Below
import Derived.SizedLaws
namespace Go.Proofs.Ytlbgnmcjdmdjpaa.copyioWrong
open Go.ChangeShapes Go.WideShapes Go.ChangeAt Go.RowKit
open Go.ChangeMaps (open_string shut_string)
set_option linter.unusedVariables false
theorem own : ownKnob Try.prog.godebug = none := by kernel_rfl
theorem laidOut : laidOutB Try.prog = true := by kernel_rfl
set_option maxRecDepth 100000 in
theorem lifted (os : Os) (started : os.Started) (H : Type) (enc : TypeId × Value → H) :
    ReturnsInHanded {} Try.checked os 11 .any (Rows.copyioWrongSpec.pre6 enc Try.prog Try.f11 Rows.copyioWrongRow.domain false) (Rows.copyioWrongSpec.post enc Try.prog Try.f11 false true false false) := by
  refine returnsInHanded_of_change_sized (C := Try.checked) own started (by kernel_rfl) Try.func11
    (ChangeSpec.witness6 (enc := enc) (C := Try.checked) false ⟨#[], #[.agg #[.bool false, .int .i64 0, .int .i64 0, .string ⟨#[]⟩], .int .i64 0], []⟩ 8 (by kernel_rfl) (by kernel_rfl) (by kernel_rfl) (by kernel_rfl)) ?_
  intro W base args ds gs before hval0 hW hcnd hsz0 _
  have hsz : (DataW.weightsEach Try.prog (Try.f11.params.toList ++ Rows.copyioWrongSpec.plain.varTypes Try.prog) (ds ++ gs)).all (· ≤ reachBytes) = true := hsz0
  have hval : ∀ (j : Nat) t v, Try.f11.params[j]? = some t → args[j]? = some v → Value.okWide Try.prog W .any base t v := hval0
  have hW' := hW
  obtain ⟨p, q, hA0, hV, rfl, hfz, hnd⟩ := hW
  have hA : DataW.TrodAll enc Try.prog W 0 (fun _ => true) true Try.f11.params.toList args.toList ds p := hA0
  rw [Try.params11] at hA hval hsz
  obtain ⟨v0, vs0, d0, ds0, p0, q0, hargs, rfl, rfl, h0, r0⟩ := trodAll_cons hA
  obtain ⟨v1, vs1, d1, ds1, p1, q1, rfl, rfl, rfl, h1, r1⟩ := trodAll_cons r0
  obtain ⟨rfl, rfl, rfl⟩ := trodAll_nil r1
  obtain rfl : args = #[v0, v1] := by cases args; simp_all
  obtain ⟨rfl, rfl⟩ := trodVars_none hV
  have k0 := h0
  have lt0 : ∀ x ∈ p0, x.block < W.heap.size := by obtain ⟨m, hm⟩ := k0; exact DataW.trod_lt m _ _ _ hm
  have w0 := hval 0 69 v0 rfl rfl
  have k1 := h1
  have lt1 : ∀ x ∈ p1, x.block < W.heap.size := by obtain ⟨m, hm⟩ := k1; exact DataW.trod_lt m _ _ _ hm
  have w1 := hval 1 3 v1 rfl rfl
  obtain ⟨cs, rfl, hcs⟩ := okWide_struct Try.underlying69 w0
  obtain ⟨fuel, hf⟩ := h0
  obtain ⟨a0, e0⟩ := leaf_bool (P := Try.prog) (n := 4) (t := 69) (j := 0) (t' := 4) (by kernel_rfl) Try.underlying4 hf
  obtain ⟨a1, e1, f1⟩ := leaf_int (P := Try.prog) (n := 4) (t := 69) (j := 1) (t' := 3) (k := .i64) (by kernel_rfl) Try.underlying3 hf
  obtain ⟨a2, e2, f2⟩ := leaf_int (P := Try.prog) (n := 4) (t := 69) (j := 2) (t' := 3) (k := .i64) (by kernel_rfl) Try.underlying3 hf
  obtain ⟨a3, e3, f3⟩ := leaf_string (P := Try.prog) (n := 4) (t := 69) (j := 3) (t' := 9) (by kernel_rfl) Try.underlying9 hf
  obtain rfl : cs = #[.bool a0, .int .i64 a1, .int .i64 a2, .string a3] := arr4 (hcs.trans (by kernel_rfl)) e0 e1 e2 e3
  obtain ⟨n1, rfl, rfl, rfl, _⟩ := open_int Try.underlying3 w1 h1
  clear hA0 hval0 hsz0 hsz
  refine (Calls.mono (cwrong_walk W a0 a1 a2 a3 n1 (in64 f1) (in64 f2) (by unfold maxLen at f3; omega))) fun e W' ⟨he, same⟩ => ?_
  have bel := same.below
  subst he
  exact ⟨_, rfl, _, _, _, [], _, [], hW', trodAll_mk1 (shut_bool Try.underlying4 _), (trodAll_cons_mk (Below.trod laidOut (by kernel_rfl) (of_decide_eq_true (by kernel_rfl)) k0 bel lt0) (trodAll_cons_mk (Below.trod laidOut (by kernel_rfl) (of_decide_eq_true (by kernel_rfl)) k1 bel lt1) trodAll_mk0)), rfl, bel.frame _, fun h => by cases h⟩
theorem over : Rows.copyioWrongRow.holds Try.pinned (OpenSpec.ofChange Rows.copyioWrongSpec) :=
  OpenClaim.holds_of_wide 11 Try.f11 rfl rfl rfl rfl rfl rfl rfl ⟨rfl, rfl, rfl, rfl, rfl⟩ rfl rfl rfl rfl rfl (by kernel_rfl) Try.func11 (by kernel_rfl)
    (of_decide_eq_true (by kernel_rfl)) (by unfold Func.isWrapper; first | (rw [if_pos (by decide +kernel)]; kernel_rfl) | (rw [if_neg (by decide +kernel)]; exact ⟨rfl, rfl⟩))
    (fun os started H enc _ => lifted os started H enc)
theorem proved : Rows.CopyioWrongSaid := over
#print axioms proved
end Go.Proofs.Ytlbgnmcjdmdjpaa.copyioWrong
namespace Go.Proofs.Ytlbgnmcjdmdjpaa
/-- The row, under a short name, for the claim. -/
theorem copyioWrong_holds : Rows.CopyioWrongSaid := copyioWrong.proved
end Go.Proofs.Ytlbgnmcjdmdjpaa
