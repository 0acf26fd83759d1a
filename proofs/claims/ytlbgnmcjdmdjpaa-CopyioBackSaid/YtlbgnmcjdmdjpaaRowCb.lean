/- The law CopyioBack: for every input it returns true, and leaves its arguments as they were. No condition. -/
import Derived.Test.YtlbgnmcjdmdjpaaCb
import Derived.Test.YtlbgnmcjdmdjpaaSb
import Derived.Test.YtlbgnmcjdmdjpaaOq
import Derived.WalkKit
import Derived.ProofKit
import Derived.OpenShut
import Derived.ShutString
import Derived.ChangeOld
import Derived.Below
import Derived.SizedLaws
namespace Go.Proofs.Ytlbgnmcjdmdjpaa.copyioBack
open Go.ChangeShapes Go.WideShapes Go.ChangeAt Go.RowKit
open Go.ChangeMaps (open_string shut_string)
set_option linter.unusedVariables false
theorem own : ownKnob Try.prog.godebug = none := by kernel_rfl
theorem laidOut : laidOutB Try.prog = true := by kernel_rfl
set_option maxRecDepth 100000 in
theorem lifted (os : Os) (started : os.Started) (H : Type) (enc : TypeId × Value → H) :
    ReturnsInHanded {} Try.checked os 9 .any (Rows.copyioBackSpec.pre6 enc Try.prog Try.f9 Rows.copyioBackRow.domain false) (Rows.copyioBackSpec.post enc Try.prog Try.f9 false true false false) := by
  refine returnsInHanded_of_change_sized (C := Try.checked) own started (by kernel_rfl) Try.func9
    (ChangeSpec.witness6 (enc := enc) (C := Try.checked) false ⟨#[], #[.slice none 0 0, .slice none 0 0, .int .i64 0, .string ⟨#[]⟩, .int .i64 0], []⟩ 8 (by kernel_rfl) (by kernel_rfl) (by kernel_rfl) (by kernel_rfl)) ?_
  intro W base args ds gs before hval0 hW hcnd hsz0 _
  have hsz : (DataW.weightsEach Try.prog (Try.f9.params.toList ++ Rows.copyioBackSpec.plain.varTypes Try.prog) (ds ++ gs)).all (· ≤ reachBytes) = true := hsz0
  have hval : ∀ (j : Nat) t v, Try.f9.params[j]? = some t → args[j]? = some v → Value.okWide Try.prog W .any base t v := hval0
  have hW' := hW
  obtain ⟨p, q, hA0, hV, rfl, hfz, hnd⟩ := hW
  have hA : DataW.TrodAll enc Try.prog W 0 (fun _ => true) true Try.f9.params.toList args.toList ds p := hA0
  rw [Try.params9] at hA hval hsz
  obtain ⟨v0, vs0, d0, ds0, p0, q0, hargs, rfl, rfl, h0, r0⟩ := trodAll_cons hA
  obtain ⟨v1, vs1, d1, ds1, p1, q1, rfl, rfl, rfl, h1, r1⟩ := trodAll_cons r0
  obtain ⟨v2, vs2, d2, ds2, p2, q2, rfl, rfl, rfl, h2, r2⟩ := trodAll_cons r1
  obtain ⟨v3, vs3, d3, ds3, p3, q3, rfl, rfl, rfl, h3, r3⟩ := trodAll_cons r2
  obtain ⟨v4, vs4, d4, ds4, p4, q4, rfl, rfl, rfl, h4, r4⟩ := trodAll_cons r3
  obtain ⟨rfl, rfl, rfl⟩ := trodAll_nil r4
  obtain rfl : args = #[v0, v1, v2, v3, v4] := by cases args; simp_all
  obtain ⟨rfl, rfl⟩ := trodVars_none hV
  have k0 := h0
  have lt0 : ∀ x ∈ p0, x.block < W.heap.size := by obtain ⟨m, hm⟩ := k0; exact DataW.trod_lt m _ _ _ hm
  have w0 := hval 0 30 v0 rfl rfl
  have k1 := h1
  have lt1 : ∀ x ∈ p1, x.block < W.heap.size := by obtain ⟨m, hm⟩ := k1; exact DataW.trod_lt m _ _ _ hm
  have w1 := hval 1 59 v1 rfl rfl
  have k2 := h2
  have lt2 : ∀ x ∈ p2, x.block < W.heap.size := by obtain ⟨m, hm⟩ := k2; exact DataW.trod_lt m _ _ _ hm
  have w2 := hval 2 3 v2 rfl rfl
  have k3 := h3
  have lt3 : ∀ x ∈ p3, x.block < W.heap.size := by obtain ⟨m, hm⟩ := k3; exact DataW.trod_lt m _ _ _ hm
  have w3 := hval 3 9 v3 rfl rfl
  have k4 := h4
  have lt4 : ∀ x ∈ p4, x.block < W.heap.size := by obtain ⟨m, hm⟩ := k4; exact DataW.trod_lt m _ _ _ hm
  have w4 := hval 4 3 v4 rfl rfl
  obtain ⟨aa, la, ca, rfl⟩ := okWide_slice Try.underlying30 w0
  obtain ⟨ab, lb, cb, rfl⟩ := okWide_slice Try.underlying59 w1
  obtain ⟨fuel, hf⟩ := h0
  obtain ⟨a0, n0, c0, hva, hlen, hrows, hnil⟩ := rows_ints (P := Try.prog) (e := 3) (t' := 3) (n := 4) (nl := 1) Try.underlying30 (by kernel_rfl) (by kernel_rfl) Try.underlying3 hf
  cases hva
  obtain ⟨gp, hgp⟩ := ints_fun hrows hnil
  obtain ⟨fuelb, hfb⟩ := h1
  obtain ⟨b0, m0, e0, hvb, hlenb, hrowsb, hnilb⟩ := rows_bools (P := Try.prog) (e := 4) (t' := 4) (n := 4) (nl := 1) Try.underlying59 (by kernel_rfl) (by kernel_rfl) Try.underlying4 hfb
  cases hvb
  obtain ⟨gb, hgb⟩ := bools_fun hrowsb hnilb
  obtain ⟨n2, rfl, rfl, rfl, g2⟩ := open_int Try.underlying3 w2 h2
  obtain ⟨s3, rfl, rfl, rfl, g3⟩ := open_string Try.underlying9 w3 h3
  obtain ⟨n4, rfl, rfl, rfl, g4⟩ := open_int Try.underlying3 w4 h4
  clear hA0 hval0 hsz0 hsz
  refine (Calls.mono (back_walk W aa la ca ab lb cb gp gb (by unfold maxLen at hlen; omega) (by unfold maxLen at hlenb; omega) hgp hgb n2 n4 s3 (in64 g2) (in64 g4) (by unfold maxLen at g3; omega))) fun e W' ⟨he, same⟩ => ?_
  have bel := same.below
  subst he
  exact ⟨_, rfl, _, _, _, [], _, [], hW', trodAll_mk1 (shut_bool Try.underlying4 _), (trodAll_cons_mk (Below.trod laidOut (by kernel_rfl) (of_decide_eq_true (by kernel_rfl)) k0 bel lt0) (trodAll_cons_mk (Below.trod laidOut (by kernel_rfl) (of_decide_eq_true (by kernel_rfl)) k1 bel lt1) (trodAll_cons_mk (Below.trod laidOut (by kernel_rfl) (of_decide_eq_true (by kernel_rfl)) k2 bel lt2) (trodAll_cons_mk (Below.trod laidOut (by kernel_rfl) (of_decide_eq_true (by kernel_rfl)) k3 bel lt3) (trodAll_cons_mk (Below.trod laidOut (by kernel_rfl) (of_decide_eq_true (by kernel_rfl)) k4 bel lt4) trodAll_mk0))))), rfl, bel.frame _, fun h => by cases h⟩
theorem over : Rows.copyioBackRow.holds Try.pinned (OpenSpec.ofChange Rows.copyioBackSpec) :=
  OpenClaim.holds_of_wide 9 Try.f9 rfl rfl rfl rfl rfl rfl rfl ⟨rfl, rfl, rfl, rfl, rfl⟩ rfl rfl rfl rfl rfl (by kernel_rfl) Try.func9 (by kernel_rfl)
    (of_decide_eq_true (by kernel_rfl)) (by unfold Func.isWrapper; first | (rw [if_pos (by decide +kernel)]; kernel_rfl) | (rw [if_neg (by decide +kernel)]; exact ⟨rfl, rfl⟩))
    (fun os started H enc _ => lifted os started H enc)
theorem proved : Rows.CopyioBackSaid := over
#print axioms proved
end Go.Proofs.Ytlbgnmcjdmdjpaa.copyioBack
namespace Go.Proofs.Ytlbgnmcjdmdjpaa
/-- The row, under a short name, for the claim. -/
theorem copyioBack_holds : Rows.CopyioBackSaid := copyioBack.proved
end Go.Proofs.Ytlbgnmcjdmdjpaa
