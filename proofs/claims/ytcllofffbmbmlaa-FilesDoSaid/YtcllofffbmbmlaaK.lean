import Derived.Test.YtcllofffbmbmlaaJ
namespace Go.Proofs.Ytcllofffbmbmlaa
open Go.RowKit Go.Shelf
attribute [local go_sem] Oper.semAt_some

theorem check_nil (w : World) (v : Value) : Calls Try.prog 23 #[.pointer none, v] w fun e w' => e = .returned (.int .i64 1) ∧ w = w' := by
  go_enter Try.func23, Try.ntmps23
  go_wp2
  go_ret
  exact ⟨rfl, rfl⟩
theorem find_nil (w : World) (pid fd : Int) : Calls Try.prog 26 #[.pointer none, .int .i64 pid, .int .i64 fd] w fun e w' => e = .returned (.tuple #[.pointer none, .int .i64 1]) ∧ Same (fun _ => False) w w' := by
  go_enter Try.func26, Try.ntmps26
  go_wp2_with (go_at_call 23; refine (check_nil _ _).mono ?_; rintro e w' ⟨rfl, rfl⟩)
  go_ret2
  exact ⟨rfl, same_alloc _⟩
theorem open_nil (w : World) (pid K T : Int) : Calls Try.prog 12 #[.pointer none, .int .i64 pid, .agg #[.int .i64 K, .int .i64 T]] w fun e w' => e = .returned (.tuple #[.int .i64 0, .int .i64 1]) ∧ Same (fun _ => False) w w' := by
  go_enter Try.func12, Try.ntmps12
  go_wp2_with (go_at_call 23; refine (check_nil _ _).mono ?_; rintro e w' ⟨rfl, rfl⟩)
  go_ret2
  exact ⟨rfl, (same_alloc _).alloc _⟩
theorem dup_nil (w : World) (pid fd : Int) : Calls Try.prog 14 #[.pointer none, .int .i64 pid, .int .i64 fd] w fun e w' => e = .returned (.tuple #[.int .i64 0, .int .i64 1]) ∧ Same (fun _ => False) w w' := by
  go_enter Try.func14, Try.ntmps14
  go_wp2_with (go_at_call 26; refine (find_nil _ _ _).mono ?_; rintro e w' ⟨rfl, hs⟩)
  go_ret2
  exact ⟨rfl, hs⟩
theorem close_nil (w : World) (pid fd : Int) : Calls Try.prog 15 #[.pointer none, .int .i64 pid, .int .i64 fd] w fun e w' => e = .returned (.tuple #[.agg #[.int .i64 0, .int .i64 0], .bool false, .int .i64 1]) ∧ Same (fun _ => False) w w' := by
  go_enter Try.func15, Try.ntmps15
  go_wp2_with (go_at_call 26; refine (find_nil _ _ _).mono ?_; rintro e w' ⟨rfl, hs⟩; obtain ⟨hc0, hc1, hz0, hz1, hlt⟩ := new2 hs (by simp))
  refine bodyPost_ret (v := .tuple #[.agg #[.int .i64 0, .int .i64 0], .bool false, .int .i64 1]) (by simp [results, Try.results15, go_sem, hc0, hc1]) rfl ⟨rfl, ?_⟩
  exact (((same_alloc _).trans hs).setCell _ (.inl (Nat.le_refl _))).setCell _ (.inl (Nat.le_refl _))
theorem get_nil (w : World) (pid fd : Int) : Calls Try.prog 17 #[.pointer none, .int .i64 pid, .int .i64 fd] w fun e w' => e = .returned (.tuple #[.agg #[.int .i64 0, .int .i64 0], .int .i64 1]) ∧ Same (fun _ => False) w w' := by
  go_enter Try.func17, Try.ntmps17
  go_wp2_with (go_at_call 26; refine (find_nil _ _ _).mono ?_; rintro e w' ⟨rfl, hs⟩; obtain ⟨hc0, hc1, hz0, hz1, hlt⟩ := new2 hs (by simp))
  refine bodyPost_ret (v := .tuple #[.agg #[.int .i64 0, .int .i64 0], .int .i64 1]) (by simp [results, Try.results17, go_sem, hc0, hc1]) rfl ⟨rfl, ?_⟩
  exact (((same_alloc _).trans hs).setCell _ (.inl (Nat.le_refl _))).setCell _ (.inl (Nat.le_refl _))
theorem fork_nil (w : World) (pid child : Int) : Calls Try.prog 16 #[.pointer none, .int .i64 pid, .int .i64 child] w fun e w' => e = .returned (.int .i64 1) ∧ Same (fun _ => False) w w' := by
  refine (callsIn_wide (n := 0)).1 ?_
  refine callsIn_of_wp_marks Try.func16 rfl trivial ?_ rfl
  simp only [Try.ntmps16, List.size_toArray, List.length_cons, List.length_nil, Nat.reduceAdd, Nat.reduceSub, Array.replicate_succ, Array.replicate_zero, List.push_toArray, List.append_toArray, List.nil_append, List.cons_append]
  gi_wp2_with (gi_at_call 23; refine CallsIn.mono (callsIn_wide.2 (check_nil _ _)) ?_; rintro e w' ⟨rfl, rfl⟩)
  exact leaves_nil (v := .int .i64 1) (by simp [results, Try.results16, go_sem]) ⟨rfl, (((same_alloc _).alloc _).alloc _).alloc _⟩
theorem drop_nil (w : World) (pid : Int) : Calls Try.prog 22 #[.pointer none, .int .i64 pid] w fun e w' => e = .returned (.slice none 0 0) ∧ Same (fun _ => False) w w' := by
  refine (callsIn_wide (n := 0)).1 ?_
  refine callsIn_of_wp_marks Try.func22 rfl trivial ?_ rfl
  simp only [Try.ntmps22, List.size_toArray, List.length_cons, List.length_nil, Nat.reduceAdd, Nat.reduceSub, Array.replicate_succ, Array.replicate_zero, List.push_toArray, List.append_toArray, List.nil_append, List.cons_append]
  gi_wp2_with (gi_at_call 23; refine CallsIn.mono (callsIn_wide.2 (check_nil _ _)) ?_; rintro e w' ⟨rfl, rfl⟩)
  exact leaves_nil (results_tmp rfl _ _ _) ⟨rfl, ((same_alloc _).alloc _).alloc _⟩
theorem count_nil (w : World) : Calls Try.prog 13 #[.pointer none] w fun e w' => e = .returned (.int .i64 0) ∧ w = w' := by
  go_enter Try.func13, Try.ntmps13
  go_wp2
  go_ret
  exact ⟨rfl, rfl⟩

/-- What a block of cells holds behind a call that keeps it. -/
theorem newN {w w' : World} {c : Array Value} {t : TypeId} {S : Nat → Prop} (hs : Same S (w.alloc (.cells c t)) w') (hS : ¬ S w.heap.size) : w'.heap[w.heap.size]? = some (.cells c t (0, 0)) :=
  hs.block (World.alloc_heap_new w _) hS

set_option maxHeartbeats 1600000 in
theorem none_walk (w : World) (d p f K T : Int) : Calls Try.prog 7 #[.agg #[.int .i64 d, .int .i64 p, .int .i64 f, .int .i64 K, .int .i64 T]] w fun e w' => e = .returned (.bool true) ∧ Same (fun _ => False) w w' := by
  go_enter Try.func7, Try.ntmps7
  go_wp2_with fail
  refine (shown_any _).mono ?_
  rintro e w1 ⟨rfl, hs1⟩
  have p1 : w1.cell? ⟨w.heap.size, 1, none⟩ = some (.int .i64 p) := hs1.cell (by simp) (by simp)
  have p2 : w1.cell? ⟨w.heap.size, 2, none⟩ = some (.int .i64 f) := hs1.cell (by simp) (by simp)
  have p3 : w1.cell? ⟨w.heap.size, 3, none⟩ = some (.int .i64 K) := hs1.cell (by simp) (by simp)
  have p4 : w1.cell? ⟨w.heap.size, 4, none⟩ = some (.int .i64 T) := hs1.cell (by simp) (by simp)
  have l1 : w.heap.size < w1.heap.size := World.block_lt_of_cell? _ _ p1
  go_wp2_with fail
  refine (open_nil _ _ _ _).mono ?_
  rintro e w2 ⟨rfl, hs2⟩
  have q1 := hs2.cell p1 (by simp)
  have q2 := hs2.cell p2 (by simp)
  go_wp2_with fail
  refine (dup_nil _ _ _).mono ?_
  rintro e w3 ⟨rfl, hs3⟩
  have r1 := hs3.cell q1 (by simp)
  have r2 := hs3.cell q2 (by simp)
  go_wp2_with fail
  refine (close_nil _ _ _).mono ?_
  rintro e w4 ⟨rfl, hs4⟩
  have hs4' := hs4.alloc (.cells #[.int .i64 0, .int .i64 0] 23)
  have t1 := hs4'.cell r1 (by simp)
  have t2 := hs4'.cell r2 (by simp)
  go_wp2_with fail
  refine (get_nil _ _ _).mono ?_
  rintro e w5 ⟨rfl, hs5⟩
  have hs5' := hs5.alloc (.cells #[.int .i64 0, .int .i64 0] 23)
  have u1 := hs5'.cell t1 (by simp)
  have u2 := hs5'.cell t2 (by simp)
  go_wp2_with fail
  refine (fork_nil _ _ _).mono ?_
  rintro e w6 ⟨rfl, hs6⟩
  have x1 := hs6.cell u1 (by simp)
  go_wp2_with fail
  refine (drop_nil _ _).mono ?_
  rintro e w7 ⟨rfl, hs7⟩
  go_wp2_with fail
  refine (count_nil _).mono ?_
  rintro e w8 ⟨rfl, rfl⟩
  go_wp2
  go_ret
  exact ⟨rfl, (((((((same_alloc _).trans hs1).trans hs2).trans hs3).trans hs4').trans hs5').trans hs6).trans hs7⟩
end Go.Proofs.Ytcllofffbmbmlaa
