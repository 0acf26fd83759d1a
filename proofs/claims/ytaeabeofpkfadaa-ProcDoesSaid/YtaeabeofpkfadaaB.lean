/- proc: isOf, running. Conditions: the table's form. -/
import Derived.Test.YtaeabeofpkfadaaA
namespace Go.Proofs.Ytaeabeofpkfadaa
open Go.RowKit Go.Shelf
attribute [local go_sem] Oper.semAt_some

theorem index1 (w : World) (b : Nat) (s x : Int) (hc : w.cell? ⟨b, 0, none⟩ = some (.int .i64 s)) :
    Calls Try.prog 53 #[.slice (some ⟨b, 0, none⟩) 1 1, .int .i64 x] w fun e w' => e = .returned (.int .i64 (if x = s then 0 else -1)) ∧ w' = w := by
  by_cases hx : x = s
  · subst hx
    rw [if_pos rfl]
    go_enter Try.func53, Try.ntmps53
    go_wp2
    go_loopw [8, 5] (fun v8 v5 wr => v8 = .int .i64 0 ∧ wr = w) (fun v8 v5 _ => 0)
    case atStart => exact ⟨rfl, rfl⟩
    case round =>
      obtain ⟨rfl, rfl⟩ := hrel
      go_wp2
      go_ret
      exact ⟨rfl, rfl⟩
  · rw [if_neg hx]
    go_enter Try.func53, Try.ntmps53
    go_wp2
    go_loopw [8, 5] (fun v8 v5 wr => ∃ i : Nat, i ≤ 1 ∧ v8 = .int .i64 i ∧ wr = w) (fun v8 v5 _ => 1 - (intOf v8).toNat)
    case atStart => exact ⟨0, by omega, rfl, rfl⟩
    case round =>
      obtain ⟨i, hi, rfl, rfl⟩ := hrel
      rcases Nat.eq_zero_or_pos i with rfl | h
      · go_wp2
        go_round
        case rel => exact ⟨1, by omega, by go_num, by simp⟩
        case measure => simp [intOf]
      · obtain rfl : i = 1 := by omega
        go_wp2
        go_ret
        exact ⟨rfl, rfl⟩
theorem contains1 (w : World) (b : Nat) (s x : Int) (hc : w.cell? ⟨b, 0, none⟩ = some (.int .i64 s)) :
    Calls Try.prog 45 #[.slice (some ⟨b, 0, none⟩) 1 1, .int .i64 x] w fun e w' => e = .returned (.bool (decide (x = s))) ∧ w' = w := by
  have h := index1 w b s x hc
  by_cases hx : x = s
  · rw [if_pos hx] at h
    have hd : decide (x = s) = true := by simpa using hx
    rw [hd]
    clear hx hd
    go_enter Try.func45, Try.ntmps45
    go_wp2_with fail
    refine h.mono ?_
    rintro e w1 ⟨rfl, rfl⟩
    go_wp2
    go_ret
    exact ⟨rfl, rfl⟩
  · rw [if_neg hx] at h
    have hd : decide (x = s) = false := by simpa using hx
    rw [hd]
    clear hx hd
    go_enter Try.func45, Try.ntmps45
    go_wp2_with fail
    refine h.mono ?_
    rintro e w1 ⟨rfl, rfl⟩
    go_wp2
    go_ret
    exact ⟨rfl, rfl⟩
theorem isOf_any {w : World} {p : Pr} (hp : PrAt w p) (b : Nat) (s : Int) (hc : w.cell? ⟨b, 0, none⟩ = some (.int .i64 s)) :
    Calls Try.prog 30 #[.pointer (some ⟨p.b, 0, none⟩), .slice (some ⟨b, 0, none⟩) 1 1] w fun e w' => e = .returned (.bool (decide (p.st = s))) ∧ w' = w := by
  have h := contains1 w b s p.st hc
  have c2 := (hp 2 _ rfl).1
  generalize decide (p.st = s) = r at h
  clear hp hc
  go_enter Try.func30, Try.ntmps30
  go_wp2_with fail
  refine h.mono ?_
  rintro e w1 ⟨rfl, rfl⟩
  go_wp2
  go_ret
  exact ⟨rfl, rfl⟩

/-- What 'running' finds, and its error. -/
def rn (L : List Pr) (pid : Int) : Option Pr × Int := match lget L pid with
  | none => (none, 60)
  | some p => if p.st = 1 then (some p, 0) else (none, 2)
theorem running_nil (w : World) (pid : Int) : Calls Try.prog 27 #[.pointer none, .int .i64 pid] w fun e w' => e = .returned (.tuple #[.pointer none, .int .i64 1]) ∧ w' = w := by
  go_enter Try.func27, Try.ntmps27
  go_wp2_with fail
  refine (find_nil _ pid).mono ?_
  rintro e w1 ⟨rfl, rfl⟩
  go_wp2
  go_ret2
  exact ⟨rfl, rfl⟩
theorem running_any {w : World} {t m : Nat} {L : List Pr} {last : Int} (h : TabAt w t m L last) (pid : Int) :
    Calls Try.prog 27 #[.pointer (some ⟨t, 0, none⟩), .int .i64 pid] w fun e w' => e = .returned (.tuple #[pv (rn L pid).1, .int .i64 (rn L pid).2]) ∧ Same (fun _ => False) w w' := by
  have hfa := find_any h pid
  unfold rn
  cases hg : lget L pid with
  | none =>
    rw [hg] at hfa
    simp only [pv, fe] at hfa ⊢
    clear hg h
    go_enter Try.func27, Try.ntmps27
    go_wp2_with fail
    refine hfa.mono ?_
    rintro e w1 ⟨rfl, rfl⟩
    go_wp2
    go_ret2
    exact ⟨rfl, Same.refl _ _⟩
  | some p =>
    rw [hg] at hfa
    simp only [pv, fe] at hfa ⊢
    have hp := h.pr p (lget_some hg).1
    have hlt := hp.lt
    have hio := isOf_any (hp.same (same_alloc (.cells #[.int .i64 1] 3)) (by simp)) w.heap.size 1 (by simp)
    clear hg h hp
    by_cases h1 : p.st = 1
    · have hd : decide (p.st = 1) = true := by simpa using h1
      rw [hd] at hio
      rw [if_pos h1]
      clear h1 hd
      go_enter Try.func27, Try.ntmps27
      go_wp2_with fail
      refine hfa.mono ?_
      rintro e w1 ⟨rfl, rfl⟩
      go_wp2_with fail
      refine hio.mono ?_
      rintro e w1 ⟨rfl, rfl⟩
      go_wp2
      go_ret2
      exact ⟨rfl, same_alloc _⟩
    · have hd : decide (p.st = 1) = false := by simpa using h1
      rw [hd] at hio
      rw [if_neg h1]
      clear h1 hd
      go_enter Try.func27, Try.ntmps27
      go_wp2_with fail
      refine hfa.mono ?_
      rintro e w1 ⟨rfl, rfl⟩
      go_wp2_with fail
      refine hio.mono ?_
      rintro e w1 ⟨rfl, rfl⟩
      go_wp2
      go_ret2
      exact ⟨rfl, same_alloc _⟩
end Go.Proofs.Ytaeabeofpkfadaa
