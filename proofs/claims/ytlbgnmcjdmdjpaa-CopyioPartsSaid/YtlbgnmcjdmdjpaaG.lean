import Derived.Test.YtlbgnmcjdmdjpaaF
namespace Go.Proofs.Ytlbgnmcjdmdjpaa
open Go.RowKit Go.Shelf
attribute [local go_sem] Oper.semAt_some

theorem clo104 (w : World) (n most : Int) (x : Addr) (hx : w.cell? x = some (.int .i64 most)) :
    Calls Try.prog 104 #[.int .i64 n, .pointer (some x)] w fun e w' => e = .returned (.bool (decide (n < 0) || decide (most < n))) ∧ w = w' := by
  by_cases h : n < 0
  · have hb : decide (n < 0) = true := by simpa using h
    go_enter Try.func104, Try.ntmps104
    go_wp2
    go_ret
    exact ⟨by simp [h], rfl⟩
  · have hb : decide (n < 0) = false := by simpa using h
    go_enter Try.func104, Try.ntmps104
    go_wp2
    go_ret
    exact ⟨by simp [hb], rfl⟩
set_option maxHeartbeats 800000 in
theorem index1 (w : World) (b : Nat) (n most : Int) (x : Addr) (hx : w.cell? x = some (.int .i64 most)) (hc : w.cell? ⟨b, 0, none⟩ = some (.int .i64 n)) :
    Calls Try.prog 116 #[.slice (some ⟨b, 0, none⟩) 1 1, .func (.func 104) #[] #[.pointer (some x)]] w fun e w' => e = .returned (.int .i64 (if n < 0 ∨ most < n then 0 else -1)) ∧ w = w' := by
  by_cases h : n < 0 ∨ most < n
  · have hb : (decide (n < 0) || decide (most < n)) = true := by simpa using h
    rw [if_pos h]
    clear h
    go_enter Try.func116, Try.ntmps116
    go_wp2
    refine wp_loop_rounds 1 ?_
    rw [rounds_succ]
    go_wp2_with fail
    refine (clo104 _ _ _ _ hx).mono ?_
    rintro e w' ⟨rfl, rfl⟩
    rw [hb]
    go_wp2
    go_ret
    exact ⟨rfl, rfl⟩
  · have hb : (decide (n < 0) || decide (most < n)) = false := by simp; omega
    rw [if_neg h]
    clear h
    go_enter Try.func116, Try.ntmps116
    go_wp2
    refine wp_loop_rounds 2 ?_
    rw [rounds_succ]
    go_wp2_with fail
    refine (clo104 _ _ _ _ hx).mono ?_
    rintro e w' ⟨rfl, rfl⟩
    rw [hb]
    go_wp2
    rw [rounds_succ]
    go_wp2
    go_ret
    exact ⟨rfl, rfl⟩
theorem contains1 (w : World) (b : Nat) (n most : Int) (x : Addr) (hx : w.cell? x = some (.int .i64 most)) (hc : w.cell? ⟨b, 0, none⟩ = some (.int .i64 n)) :
    Calls Try.prog 91 #[.slice (some ⟨b, 0, none⟩) 1 1, .func (.func 104) #[] #[.pointer (some x)]] w fun e w' => e = .returned (.bool (decide (n < 0 ∨ most < n))) ∧ w = w' := by
  have H := Lib.hid (index1 w b n most x hx hc)
  by_cases h : n < 0 ∨ most < n
  all_goals
    simp only [h, if_true, if_false] at H
    simp only [h, decide_true, decide_false]
    go_enter Try.func91, Try.ntmps91
    go_wp2_with fail
    refine H.out.mono ?_
    rintro e w' ⟨rfl, rfl⟩
    go_wp2
    go_ret
    exact ⟨rfl, rfl⟩
theorem inside1 (w : World) (b : Nat) (most n : Int) (hc : w.cell? ⟨b, 0, none⟩ = some (.int .i64 n)) :
    Calls Try.prog 61 #[.int .i64 most, .slice (some ⟨b, 0, none⟩) 1 1] w fun e w' => e = .returned (.bool (decide (0 ≤ n ∧ n ≤ most))) ∧ Same (fun _ => False) w w' := by
  have hs : Same (fun _ => False) w (w.alloc (.cells #[.int .i64 most] 3)) := same_alloc _
  have H := Lib.hid (contains1 (w.alloc (.cells #[.int .i64 most] 3)) b n most ⟨w.heap.size, 0, none⟩ (by simp) (hs.cell hc (by simp)))
  have e1 : decide (0 ≤ n ∧ n ≤ most) = !decide (n < 0 ∨ most < n) := by
    by_cases h : n < 0 ∨ most < n
    · rw [decide_eq_true h, decide_eq_false (by omega)]; rfl
    · rw [decide_eq_false h, decide_eq_true (by omega)]; rfl
  rw [e1]
  generalize decide (n < 0 ∨ most < n) = d at H
  go_enter Try.func61, Try.ntmps61
  go_wp2_with fail
  refine H.out.mono ?_
  rintro e w' ⟨rfl, rfl⟩
  go_wp2
  go_ret
  exact ⟨rfl, hs⟩
end Go.Proofs.Ytlbgnmcjdmdjpaa
