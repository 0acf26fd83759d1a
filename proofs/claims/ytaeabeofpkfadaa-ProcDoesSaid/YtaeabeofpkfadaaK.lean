/- proc: New, Fork where there is no room, Exit where it is refused. Conditions: the table's form. -/
import Derived.Test.YtaeabeofpkfadaaJ
namespace Go.Proofs.Ytaeabeofpkfadaa
open Go.RowKit Go.Shelf
attribute [local go_sem] Oper.semAt_some

theorem exit_nil (w : World) (pid status : Int) : Calls Try.prog 15 #[.pointer none, .int .i64 pid, .int .i64 status] w fun e w' => e = .returned (.int .i64 1) ∧ Same (fun _ => False) w w' := by
  refine (callsIn_wide (n := 0)).1 ?_
  refine callsIn_of_wp_marks Try.func15 rfl trivial ?_ rfl
  simp only [Try.ntmps15, List.size_toArray, List.length_cons, List.length_nil, Nat.reduceAdd, Nat.reduceSub, Array.replicate_succ, Array.replicate_zero, List.push_toArray, List.append_toArray, List.nil_append, List.cons_append]
  gi_wp2_with fail
  refine CallsIn.mono (callsIn_wide.2 (running_nil _ pid)) ?_
  rintro e w1 ⟨rfl, rfl⟩
  gi_wp2
  refine leaves_nil (results_tmp rfl _ _ _) ⟨rfl, same_alloc _⟩
theorem exit_bad {w : World} {t m : Nat} {L : List Pr} {last : Int} (h : TabAt w t m L last) (pid status : Int) {er : Int} (hr : rn L pid = (none, er)) :
    Calls Try.prog 15 #[.pointer (some ⟨t, 0, none⟩), .int .i64 pid, .int .i64 status] w fun e w' => e = .returned (.int .i64 er) ∧ Same (fun _ => False) w w' := by
  have hra := running_any (h.same0 (same_alloc (.cells #[.int .i64 pid] 3))) pid
  rw [hr] at hra
  simp only [pv] at hra
  have he : (er == 0) = false := by rcases rn_none hr with rfl | rfl <;> rfl
  clear h hr
  refine (callsIn_wide (n := 0)).1 ?_
  refine callsIn_of_wp_marks Try.func15 rfl trivial ?_ rfl
  simp only [Try.ntmps15, List.size_toArray, List.length_cons, List.length_nil, Nat.reduceAdd, Nat.reduceSub, Array.replicate_succ, Array.replicate_zero, List.push_toArray, List.append_toArray, List.nil_append, List.cons_append]
  gi_wp2_with fail
  refine CallsIn.mono (callsIn_wide.2 hra) ?_
  rintro e w1 ⟨rfl, hs1⟩
  gi_wp2
  refine leaves_nil (results_tmp rfl _ _ _) ⟨rfl, (same_alloc _).trans hs1⟩
theorem exit_arg {w : World} {t m : Nat} {L : List Pr} {last : Int} (h : TabAt w t m L last) (pid status : Int) {p : Pr} {er : Int} (hr : rn L pid = (some p, er)) (hs : status < 0 ∨ 255 < status ∨ pid = 1) :
    Calls Try.prog 15 #[.pointer (some ⟨t, 0, none⟩), .int .i64 pid, .int .i64 status] w fun e w' => e = .returned (.int .i64 2) ∧ Same (fun _ => False) w w' := by
  have hra := running_any (h.same0 (same_alloc (.cells #[.int .i64 pid] 3))) pid
  rw [hr] at hra
  obtain ⟨hg, hst, rfl⟩ := rn_some hr
  simp only [pv] at hra
  clear h hr hg hst
  by_cases g1 : status < 0
  · clear hs
    refine (callsIn_wide (n := 0)).1 ?_
    refine callsIn_of_wp_marks Try.func15 rfl trivial ?_ rfl
    simp only [Try.ntmps15, List.size_toArray, List.length_cons, List.length_nil, Nat.reduceAdd, Nat.reduceSub, Array.replicate_succ, Array.replicate_zero, List.push_toArray, List.append_toArray, List.nil_append, List.cons_append]
    gi_wp2_with fail
    refine CallsIn.mono (callsIn_wide.2 hra) ?_
    rintro e w1 ⟨rfl, hs1⟩
    gi_wp2
    refine leaves_nil (results_tmp rfl _ _ _) ⟨rfl, (same_alloc _).trans hs1⟩
  by_cases g2 : 255 < status
  · clear hs
    refine (callsIn_wide (n := 0)).1 ?_
    refine callsIn_of_wp_marks Try.func15 rfl trivial ?_ rfl
    simp only [Try.ntmps15, List.size_toArray, List.length_cons, List.length_nil, Nat.reduceAdd, Nat.reduceSub, Array.replicate_succ, Array.replicate_zero, List.push_toArray, List.append_toArray, List.nil_append, List.cons_append]
    gi_wp2_with fail
    refine CallsIn.mono (callsIn_wide.2 hra) ?_
    rintro e w1 ⟨rfl, hs1⟩
    gi_wp2
    refine leaves_nil (results_tmp rfl _ _ _) ⟨rfl, (same_alloc _).trans hs1⟩
  · obtain rfl : pid = 1 := by rcases hs with h | h | h <;> first | exact h | (exfalso; omega)
    clear hs
    refine (callsIn_wide (n := 0)).1 ?_
    refine callsIn_of_wp_marks Try.func15 rfl trivial ?_ rfl
    simp only [Try.ntmps15, List.size_toArray, List.length_cons, List.length_nil, Nat.reduceAdd, Nat.reduceSub, Array.replicate_succ, Array.replicate_zero, List.push_toArray, List.append_toArray, List.nil_append, List.cons_append]
    gi_wp2_with fail
    refine CallsIn.mono (callsIn_wide.2 hra) ?_
    rintro e w1 ⟨rfl, hs1⟩
    have b4 := hs1.cell (a := ⟨w.heap.size, 0, none⟩) (v := .int .i64 1) (by simp [go_sem]) (fun h => h)
    gi_wp2
    refine leaves_nil (results_tmp rfl _ _ _) ⟨rfl, (same_alloc _).trans hs1⟩
theorem fork_full {w : World} {t m : Nat} {L : List Pr} {last : Int} (h : TabAt w t m L last) (pid : Int) {p : Pr} {er : Int} (hr : rn L pid = (some p, er)) (hf : L.length = 16 ∨ last = 30000) :
    Calls Try.prog 13 #[.pointer (some ⟨t, 0, none⟩), .int .i64 pid] w fun e w' => e = .returned (.tuple #[.int .i64 0, .int .i64 61]) ∧ Same (fun _ => False) w w' := by
  have hra := running_any h pid
  rw [hr] at hra
  obtain ⟨hg, hst, rfl⟩ := rn_some hr
  simp only [pv] at hra
  have H := Lib.hid h
  clear h hr
  by_cases h16 : L.length = 16
  · have hb : ((L.length : Int) == 16) = true := by simp; omega
    clear hf
    go_enter Try.func13, Try.ntmps13
    go_wp2_with fail
    refine hra.mono ?_
    rintro e w1 ⟨rfl, hs1⟩
    have h1 := H.out.same0 hs1
    have hln := h1.lenRun
    have t0 := h1.t0
    have t1 := h1.t1
    clear h1 hra
    go_wp2
    go_ret2
    exact ⟨rfl, hs1⟩
  · have hb : ((L.length : Int) == 16) = false := by simp; omega
    obtain rfl := hf.resolve_left h16
    go_enter Try.func13, Try.ntmps13
    go_wp2_with fail
    refine hra.mono ?_
    rintro e w1 ⟨rfl, hs1⟩
    have h1 := H.out.same0 hs1
    have hln := h1.lenRun
    have t0 := h1.t0
    have t1 := h1.t1
    clear h1 hra
    go_wp2
    go_ret2
    exact ⟨rfl, hs1⟩
end Go.Proofs.Ytaeabeofpkfadaa
