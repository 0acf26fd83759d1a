/- proc: credentials, and processes, compared; closed facts. No condition. -/
import Derived.Test.YtaeabeofpkfadaaB
import Derived.Laws.StructEq
namespace Go.Proofs.Ytaeabeofpkfadaa
open Go.RowKit Go.Shelf

theorem Try.info3 : (Try.prog.info? 3).map (fun i => (i.zero, i.size, i.bytes)) = some (some (.int .i64 0), 1, 8) := by kernel_rfl
theorem Try.info34 : (Try.prog.info? 34).map (fun i => (i.zero, i.size, i.bytes)) = some (some Pr.zero, 8, 72) := by kernel_rfl
@[go_sem] theorem Try.stood32 : Try.prog.stoodInHeld 32 = false := by kernel_rfl
@[go_sem] theorem Try.stood34 : Try.prog.stoodInHeld 34 = false := by kernel_rfl
@[go_sem] theorem Try.guard32 : Try.prog.eqGuardType Try.prog.depth 32 = false := by kernel_rfl
@[go_sem] theorem Try.guard34 : Try.prog.eqGuardType Try.prog.depth 34 = false := by kernel_rfl
theorem eqIn32 (d : Nat) (w : World) (a b c e : Int) : (Op.equalIn (d + 2) 32 (.agg #[.int .i64 a, .int .i64 b]) (.agg #[.int .i64 c, .int .i64 e])).run Try.prog w = .ok (a == c && b == e) w := by
  rw [run_equalIn_struct w (d + 1) 32 _ _ (by simp [Program.fieldsOf, Try.underlying32]) Try.stood32]
  simp only [Program.fieldsOf, Try.underlying32]
  cases h1 : (a == c) <;> cases h2 : (b == e) <;> simp [Op.eqFields, go_sem, Try.underlying3, h1, h2]
@[go_sem] theorem eql32 (w : World) (a b c e : Int) : (binOp .eql 32 (.agg #[.int .i64 a, .int .i64 b]) (.agg #[.int .i64 c, .int .i64 e])).run Try.prog w = .ok (.bool (a == c && b == e)) w := by
  rw [run_eql_struct, show (10000 : Nat) = 9998 + 2 from rfl, eqIn32]; rfl
@[go_sem] theorem neq32 (w : World) (a b c e : Int) : (binOp .neq 32 (.agg #[.int .i64 a, .int .i64 b]) (.agg #[.int .i64 c, .int .i64 e])).run Try.prog w = .ok (.bool (!(a == c && b == e))) w := by
  rw [run_neq_struct, show (10000 : Nat) = 9998 + 2 from rfl, eqIn32]; rfl
theorem beq_ne {a b : ByteArray} (h : ¬ a = b) : (a == b) = false := by
  cases hb : (a == b)
  · rfl
  · refine absurd ?_ h
    rw [beq_toListBytes] at hb
    have := eq_of_beq hb
    rw [ByteArray.toList_eq, ByteArray.toList_eq] at this
    exact ByteArray.ext (Array.ext' this)
end Go.Proofs.Ytaeabeofpkfadaa
