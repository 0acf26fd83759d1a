/- The walk of ProcMany. Conditions: the arguments' form. -/
import Derived.Test.YtaeabeofpkfadaaR
import Derived.Laws.Small
namespace Go.Proofs.Ytaeabeofpkfadaa
open Go.RowKit Go.Shelf
attribute [local go_sem] Oper.semAt_some

/-- n processes that run, of the numbers 1 to n. -/
structure Mny (L : List Pr) (n : Nat) : Prop where
  len : L.length = n
  at_ : ∀ (j : Nat) (q : Pr), L[j]? = some q → q.pid = (j : Int) + 1 ∧ q.st = 1
theorem Mny.bd {L : List Pr} {n : Nat} (h : Mny L n) (hn : n ≤ 16) : Bd L := ⟨by have := h.len; omega, fun q hq => by
  obtain ⟨j, hj, rfl⟩ := List.getElem_of_mem hq
  have := (h.at_ j _ (List.getElem?_eq_getElem hj)).1
  have := h.len
  omega⟩
theorem Mny.last {L : List Pr} {n : Nat} (h : Mny L n) : ∀ q ∈ L, q.pid ≤ n := fun q hq => by
  obtain ⟨j, hj, rfl⟩ := List.getElem_of_mem hq
  have := (h.at_ j _ (List.getElem?_eq_getElem hj)).1
  have := h.len
  omega
theorem Mny.rn {L : List Pr} {n : Nat} (h : Mny L n) {j : Nat} (hj : j < n) : ∃ p, rn L ((j : Int) + 1) = (some p, 0) := by
  have hl := h.len
  have hp := List.getElem?_eq_getElem (l := L) (i := j) (by omega)
  obtain ⟨h1, h2⟩ := h.at_ j _ hp
  cases hg : lget L ((j : Int) + 1) with
  | none =>
    have := List.find?_eq_none.1 hg _ (List.mem_of_getElem? hp)
    simp [h1] at this
  | some q =>
    obtain ⟨q1, q2⟩ := lget_some hg
    obtain ⟨k, hk, hkq⟩ := List.getElem_of_mem q1
    have := (h.at_ k q (by rw [List.getElem?_eq_getElem hk, hkq])).2
    exact ⟨q, by unfold Ytaeabeofpkfadaa.rn; rw [hg]; simp [this]⟩
theorem Mny.step {L : List Pr} {n : Nat} (h : Mny L n) (pid : Int) (p : Pr) (b : Nat) : Mny (L ++ [kid n pid p b]) (n + 1) := by
  refine ⟨by simp [h.len], fun j q hq => ?_⟩
  rw [List.getElem?_append] at hq
  split at hq
  · exact h.at_ j q hq
  · rename_i hlt
    have hl := h.len
    have : j - L.length = 0 := by
      rcases Nat.eq_zero_or_pos (j - L.length) with e | e
      · exact e
      · rw [List.getElem?_eq_none (by simp; omega)] at hq; cases hq
    rw [this] at hq
    simp only [List.getElem?_cons_zero, Option.some.injEq] at hq
    subst hq
    exact ⟨by show (n : Int) + 1 = j + 1; omega, rfl⟩
theorem Mny.zero {L : List Pr} {n : Nat} (h : Mny L n) : lget L 0 = none := by
  unfold lget
  rw [List.find?_eq_none]
  intro q hq e
  obtain ⟨j, hj, rfl⟩ := List.getElem_of_mem hq
  have := (h.at_ j _ (List.getElem?_eq_getElem hj)).1
  simp at e
  omega
theorem Mny.new {L : List Pr} {n : Nat} (h : Mny L n) (pid : Int) (p : Pr) (b : Nat) : lget (L ++ [kid n pid p b]) ((n : Int) + 1) = some (kid n pid p b) := by
  have hn : lget L ((n : Int) + 1) = none := by
    unfold lget
    rw [List.find?_eq_none]
    intro q hq e
    have := h.last q hq
    simp at e
    omega
  unfold lget at hn ⊢
  rw [List.find?_append, hn]
  simp [kid]
end Go.Proofs.Ytaeabeofpkfadaa
