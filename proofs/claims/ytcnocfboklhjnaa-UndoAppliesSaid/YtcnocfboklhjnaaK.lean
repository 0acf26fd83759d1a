/- undo: keys that are a struct of two ints; mapEntry, entryStore; a map's entries, one by one. Closed facts of the program. -/
import Derived.Test.YtcnocfboklhjnaaUn
import Derived.Test.YtcnocfboklhjnaaAp
import Derived.Test.YtcnocfboklhjnaaProg
import Derived.Laws.StructEq
import Derived.Maps.RangeRun
import Derived.WalkKit
namespace Go.Proofs.Ytcnocfboklhjnaa
open Go.RowKit Go.Shelf

/-- A place. -/
abbrev kvp : Int × Int → Value := fun p => .agg #[.int .i64 p.1, .int .i64 p.2]
@[go_sem] theorem Try.stood58 : Try.prog.stoodInHeld 58 = false := by kernel_rfl
@[go_sem] theorem Try.guard58 : Try.prog.eqGuardType Try.prog.depth 58 = false := by kernel_rfl
theorem eqIn58 (d : Nat) (w : World) (a b c e : Int) : (Op.equalIn (d + 2) 58 (.agg #[.int .i64 a, .int .i64 b]) (.agg #[.int .i64 c, .int .i64 e])).run Try.prog w = .ok (a == c && b == e) w := by
  rw [run_equalIn_struct w (d + 1) 58 _ _ (by simp [Program.fieldsOf, Try.underlying58]) Try.stood58]
  simp only [Program.fieldsOf, Try.underlying58]
  cases h1 : (a == c) <;> cases h2 : (b == e) <;> simp [Op.eqFields, go_sem, Try.underlying3, h1, h2]
@[go_sem] theorem eql58 (w : World) (a b c e : Int) : (binOp .eql 58 (.agg #[.int .i64 a, .int .i64 b]) (.agg #[.int .i64 c, .int .i64 e])).run Try.prog w = .ok (.bool (a == c && b == e)) w := by
  rw [run_eql_struct, show (10000 : Nat) = 9998 + 2 from rfl, eqIn58]; rfl
theorem asking58 {al : List ((Int × Int) × Value)} {l : List MapEntry} (n : Int × Int) (i : Nat) (W : World) (h : l.map (fun e => (e.key, e.val)) = al.map (fun p => (kvp p.1, p.2))) :
    (Instr.findAsking 58 (kvp n) l i).run Try.prog W = .ok ((aidx al n).bind fun j => (aget al n).map fun v => (i + j, v)) W := by
  induction l generalizing al i with
  | nil =>
    cases al with
    | nil => rfl
    | cons p r => simp at h
  | cons e l ih =>
    cases al with
    | nil => simp at h
    | cons p r =>
      simp only [List.map_cons, List.cons.injEq, Prod.mk.injEq] at h
      obtain ⟨⟨hk, hv⟩, hr⟩ := h
      have he : (Op.equal 58 (kvp n) e.key).run Try.prog W = .ok (n.1 == p.1.1 && n.2 == p.1.2) W := by
        rw [hk]
        show (Op.equalIn 10000 58 _ _).run Try.prog W = _
        rw [show (10000 : Nat) = 9998 + 2 from rfl, eqIn58]
      simp only [Instr.findAsking, Sem.run_bind, he, Result.andThen, aidx, aget]
      by_cases e1 : n = p.1
      · subst e1; simp [hv]
      · have : (n.1 == p.1.1 && n.2 == p.1.2) = false := by
          rw [Bool.eq_false_iff]
          intro hh
          simp only [Bool.and_eq_true, beq_iff_eq] at hh
          exact e1 (Prod.ext hh.1 hh.2)
        simp only [this, e1, if_false, ih (i + 1) hr, Bool.false_eq_true, if_false]
        cases aidx r n <;> simp
        cases aget r n <;> simp
        omega
theorem part_int (W : World) (cs : Array Value) (off : Nat) (v : Value) (h : cs[off]? = some v) : (part 3 cs off).run Try.prog W = .ok v W := by
  simp [part, go_sem, Try.underlying3, h]
theorem check3 (e : Bool) (d : Nat) (v : Int) (W : World) : (Instr.checkKey e (d + 1) 3 (.int .i64 v)).run Try.prog W = .ok () W := by
  simp [Instr.checkKey, run_underlying Try.underlying3, Result.andThen]
theorem check58 (e : Bool) (d : Nat) (n : Int × Int) (W : World) : (Instr.checkKey e (d + 1 + 1) 58 (kvp n)).run Try.prog W = .ok () W := by
  rw [Instr.checkKey]
  simp only [Sem.run_bind, run_underlying Try.underlying58, Result.andThen]
  simp [part_int, check3, Result.andThen]
theorem key58 : KeyLaw Try.prog 58 kvp where
  inj a b h := by simp at h; exact Prod.ext h.1 h.2
  check e n W := check58 e 9998 n W
  find n l al W h := by
    unfold Instr.findKey
    simp only [Sem.run_bind, run_underlying Try.underlying58, Result.andThen]
    have ha := asking58 n 0 W h
    cases l with
    | nil =>
      cases al with
      | nil => rfl
      | cons p r => simp at h
    | cons e l =>
      simp only [Instr.findNow, Instr.sameNow]
      simpa using ha
  stays n W := by
    unfold Instr.keyThatStays
    simp [Instr.sameBits]
end Go.Proofs.Ytcnocfboklhjnaa
