import Derived.Test.YtaeabeofpkfadaaSl
/- A slice argument of bools; slices of ints or bools by index. -/
namespace Go.Proofs.Ytaeabeofpkfadaa
open Go.RowKit Go.ChangeShapes Go.WideShapes Go.Deep

section
variable {P : Program} {H : Type} {enc : TypeId × Value → H} {w : World} {base : Nat} {spare : Nat → Bool} {held : Bool}
theorem rows_bools {t e t' n fuel nl : Nat} {v : Value} {x : DataW H × List MemPlace} (ht : P.underlying t = some (.slice e)) (hc : P.cellsOf e = nl) (hl0 : ((List.range nl).all fun j => decide (leafAt P n e j = some t')) = true) (hu : P.underlying t' = some .bool)
    (h : DataW.trod enc P w base spare held fuel t [v] = some x) :
    ∃ (a : Option Addr) (len cap : Nat), v = .slice a len cap ∧ len ≤ maxLen ∧ (∀ x, a = some x → ∀ i, i < len → ∀ j, j < nl → ∃ b : Bool, w.cell? (x.add (i * nl + j)) = some (.bool b)) ∧ (a = none → len = 0) := by
  have hl : ∀ j, j < nl → leafAt P n e j = some t' := fun j hj => of_decide_eq_true (List.all_eq_true.1 hl0 j (List.mem_range.2 hj))
  rcases open_rows ht h with rfl | ⟨a, len, cap, rfl, h1, h2, h3⟩
  · exact ⟨none, 0, 0, rfl, Nat.zero_le _, by simp, fun _ => rfl⟩
  · refine ⟨some a, len, cap, rfl, by omega, ?_, by simp⟩
    rintro x rfl' i hi j hj
    cases rfl'
    obtain ⟨cs, m, y, h4, h5⟩ := h3 i hi
    obtain ⟨b, h6⟩ := leaf_bool (hl j hj) hu h5
    rw [hc] at h4
    exact ⟨b, (h4 j hj).trans h6⟩
end
theorem ints_fun {w : World} {a : Option Addr} {len : Nat} (h : ∀ x, a = some x → ∀ i, i < len → ∀ j, j < 1 → ∃ K : Int, w.cell? (x.add (i * 1 + j)) = some (.int .i64 K) ∧ (Lit.int .i64 K).wf = true) (hn : a = none → len = 0) :
    ∃ g : Nat → Int, ∀ i, i < len → ∃ x, a = some x ∧ w.cell? (x.add i) = some (.int .i64 (g i)) := by
  cases a with
  | none => exact ⟨fun _ => 0, fun i hi => by have := hn rfl; omega⟩
  | some x =>
    refine ⟨fun i => match w.cell? (x.add i) with | some (.int .i64 K) => K | _ => 0, fun i hi => ⟨x, rfl, ?_⟩⟩
    obtain ⟨K, hK, _⟩ := h x rfl i hi 0 (by omega)
    rw [show i * 1 + 0 = i by omega] at hK
    simp only [hK]
theorem bools_fun {w : World} {a : Option Addr} {len : Nat} (h : ∀ x, a = some x → ∀ i, i < len → ∀ j, j < 1 → ∃ b : Bool, w.cell? (x.add (i * 1 + j)) = some (.bool b)) (hn : a = none → len = 0) :
    ∃ g : Nat → Bool, ∀ i, i < len → ∃ x, a = some x ∧ w.cell? (x.add i) = some (.bool (g i)) := by
  cases a with
  | none => exact ⟨fun _ => false, fun i hi => by have := hn rfl; omega⟩
  | some x =>
    refine ⟨fun i => match w.cell? (x.add i) with | some (.bool K) => K | _ => false, fun i hi => ⟨x, rfl, ?_⟩⟩
    obtain ⟨K, hK⟩ := h x rfl i hi 0 (by omega)
    rw [show i * 1 + 0 = i by omega] at hK
    simp only [hK]
end Go.Proofs.Ytaeabeofpkfadaa
