import Derived.Test.YtcllofffbmbmlaaOp
/- A slice argument whose elements are of ints alone. -/
namespace Go.Proofs.Ytcllofffbmbmlaa
open Go.RowKit Go.ChangeShapes Go.WideShapes Go.Deep

section
variable {P : Program} {H : Type} {enc : TypeId × Value → H} {w : World} {base : Nat} {spare : Nat → Bool} {held : Bool}
theorem rows_ints {t e t' n fuel nl : Nat} {v : Value} {x : DataW H × List MemPlace} (ht : P.underlying t = some (.slice e)) (hc : P.cellsOf e = nl) (hl0 : ((List.range nl).all fun j => decide (leafAt P n e j = some t')) = true) (hu : P.underlying t' = some (.int .i64))
    (h : DataW.trod enc P w base spare held fuel t [v] = some x) :
    ∃ (a : Option Addr) (len cap : Nat), v = .slice a len cap ∧ len ≤ maxLen ∧ (∀ x, a = some x → ∀ i, i < len → ∀ j, j < nl → ∃ K : Int, w.cell? (x.add (i * nl + j)) = some (.int .i64 K) ∧ (Lit.int .i64 K).wf = true) ∧ (a = none → len = 0) := by
  have hl : ∀ j, j < nl → leafAt P n e j = some t' := fun j hj => of_decide_eq_true (List.all_eq_true.1 hl0 j (List.mem_range.2 hj))
  rcases open_rows ht h with rfl | ⟨a, len, cap, rfl, h1, h2, h3⟩
  · exact ⟨none, 0, 0, rfl, Nat.zero_le _, by simp, fun _ => rfl⟩
  · refine ⟨some a, len, cap, rfl, by omega, ?_, by simp⟩
    rintro x rfl' i hi j hj
    cases rfl'
    obtain ⟨cs, m, y, h4, h5⟩ := h3 i hi
    obtain ⟨K, h6, h7⟩ := leaf_int (hl j hj) hu h5
    rw [hc] at h4
    exact ⟨K, (h4 j hj).trans h6, h7⟩
end
end Go.Proofs.Ytcllofffbmbmlaa
