import Derived.Test.YtlbgnmcjdmdjpaaN
namespace Go.Proofs.Ytlbgnmcjdmdjpaa
open Go.RowKit Go.Shelf
attribute [local go_sem] Oper.semAt_some

theorem pages_nil (w : World) (root : Int) : Calls Try.prog 22 #[.pointer none, .int .i64 root] w fun e w' => e = .returned (.tuple #[.slice none 0 0, .int .i64 1]) ∧ Same (fun _ => False) w w' := by
  refine (callsIn_wide (n := 0)).1 ?_
  refine callsIn_of_wp_marks Try.func22 rfl trivial ?_ rfl
  simp only [Try.ntmps22, List.size_toArray, List.length_cons, List.length_nil, Nat.reduceAdd, Nat.reduceSub, Array.replicate_succ, Array.replicate_zero, List.push_toArray, List.append_toArray, List.nil_append, List.cons_append]
  gi_wp2_with (gi_at_call 58; refine CallsIn.mono (callsIn_wide.2 (check_nil _ _ _)) ?_; rintro e w' ⟨rfl, rfl⟩)
  refine leaves_nil (results_tmp2 rfl _ _ _) ⟨rfl, same_alloc _⟩
theorem pages_bad {w : World} {f fb : Nat} {M : Mm} (h : MemAt w f fb M) (root : Int) (hc : M.check root 0 ≠ 0) :
    Calls Try.prog 22 #[.pointer (some ⟨f, 0, none⟩), .int .i64 root] w fun e w' => e = .returned (.tuple #[.slice none 0 0, .int .i64 (M.check root 0)]) ∧ Same (fun _ => False) w w' := by
  have hb : (M.check root 0 == 0) = false := by simpa using hc
  have hck := check_any (h.same0 (same_alloc (.cells #[.pointer (some ⟨f, 0, none⟩)] 24))) root 0
  clear hc
  refine (callsIn_wide (n := 0)).1 ?_
  refine callsIn_of_wp_marks Try.func22 rfl trivial ?_ rfl
  simp only [Try.ntmps22, List.size_toArray, List.length_cons, List.length_nil, Nat.reduceAdd, Nat.reduceSub, Array.replicate_succ, Array.replicate_zero, List.push_toArray, List.append_toArray, List.nil_append, List.cons_append]
  gi_wp2_with fail
  refine CallsIn.mono (callsIn_wide.2 hck) ?_
  rintro e w1 ⟨rfl, hs1⟩
  gi_wp2
  refine leaves_nil (results_tmp2 rfl _ _ _) ⟨rfl, (same_alloc _).trans hs1⟩
theorem root_any {w : World} {f fb : Nat} {M : Mm} (h : MemAt w f fb M) :
    Calls Try.prog 21 #[.pointer (some ⟨f, 0, none⟩)] w fun e w' =>
      ((∀ i, i < M.n → 0 < M.R i) ∧ e = .returned (.tuple #[.int .i64 0, .int .i64 11]) ∧ MemAt w' f fb M ∧ Same (fun _ => False) w w') ∨
      (∃ k, k < M.n ∧ M.R k ≤ 0 ∧ (∀ i, i < k → 0 < M.R i) ∧ e = .returned (.tuple #[.int .i64 k, .int .i64 0]) ∧ MemAt w' f fb (M.alloc k) ∧ Same (· = fb) w w') := by
  go_enter Try.func21, Try.ntmps21
  go_wp2_with fail
  refine (alloc_any h).mono ?_
  rintro e w' (⟨h1, rfl, h2, h3⟩ | ⟨k, h0, h1, h2, rfl, h3, h4⟩)
  · go_wp2
    go_ret2
    exact .inl ⟨h1, rfl, h2, h3⟩
  · go_wp2
    go_ret2
    exact .inr ⟨k, h0, h1, h2, rfl, h3, h4⟩
end Go.Proofs.Ytlbgnmcjdmdjpaa
