/- proc: processes compared. No condition. -/
import Derived.Test.YtaeabeofpkfadaaE
namespace Go.Proofs.Ytaeabeofpkfadaa
open Go.RowKit Go.Shelf
theorem eqIn34 (d : Nat) (w : World) (a0 a1 a2 a3 a4 : Int) (c : ByteArray) (s : Int) (k : Bool) :
    (Op.equalIn (d + 3) 34 (.agg #[.int .i64 a0, .int .i64 a1, .int .i64 a2, .int .i64 a3, .int .i64 a4, .string c, .int .i64 s, .bool k]) (.agg #[.int .i64 a0, .int .i64 a1, .int .i64 a2, .int .i64 a3, .int .i64 a4, .string c, .int .i64 s, .bool k])).run Try.prog w = .ok true w := by
  rw [run_equalIn_struct w (d + 2) 34 _ _ (by simp [Program.fieldsOf, Try.underlying34]) Try.stood34]
  simp only [Program.fieldsOf, Try.underlying34]
  have h32 := eqIn32 d w a3 a4 a3 a4
  simp [Op.eqFields, go_sem, Try.underlying3, Try.underlying4, Try.underlying9, Try.underlying32, h32]
@[go_sem ↓ high] theorem eql34 (w : World) (a0 a1 a2 a3 a4 : Int) (c : ByteArray) (s : Int) (k : Bool) :
    (binOp .eql 34 (.agg #[.int .i64 a0, .int .i64 a1, .int .i64 a2, .int .i64 a3, .int .i64 a4, .string c, .int .i64 s, .bool k]) (.agg #[.int .i64 a0, .int .i64 a1, .int .i64 a2, .int .i64 a3, .int .i64 a4, .string c, .int .i64 s, .bool k])).run Try.prog w = .ok (.bool true) w := by
  rw [run_eql_struct, show (10000 : Nat) = 9997 + 3 from rfl, eqIn34]; rfl
@[go_sem ↓ high] theorem neq34 (w : World) (a0 a1 a2 a3 a4 : Int) (c : ByteArray) (s : Int) (k : Bool) :
    (binOp .neq 34 (.agg #[.int .i64 a0, .int .i64 a1, .int .i64 a2, .int .i64 a3, .int .i64 a4, .string c, .int .i64 s, .bool k]) (.agg #[.int .i64 a0, .int .i64 a1, .int .i64 a2, .int .i64 a3, .int .i64 a4, .string c, .int .i64 s, .bool k])).run Try.prog w = .ok (.bool false) w := by
  rw [run_neq_struct, show (10000 : Nat) = 9997 + 3 from rfl, eqIn34]; rfl
end Go.Proofs.Ytaeabeofpkfadaa
