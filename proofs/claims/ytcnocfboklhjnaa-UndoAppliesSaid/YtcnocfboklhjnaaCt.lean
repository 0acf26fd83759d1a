/- undo: the law's cut. Condition: the list's length. -/
import Derived.Test.YtcnocfboklhjnaaSm
namespace Go.Proofs.Ytcnocfboklhjnaa
open Go.RowKit Go.Shelf
attribute [local go_sem] Oper.semAt_some

set_option maxHeartbeats 3200000 in
set_option maxRecDepth 100000 in
theorem cut_any (w : World) (a : Option Addr) (c : Nat) (L : List Tri) (hr : TriR w a L) (hl : L.length ≤ maxLen) (hc : L.length ≤ c) (hn0 : a = none → L = [] ∧ c = 0) (ha : ∀ x, a = some x → x.block < w.heap.size) :
    Calls Try.prog 11 #[.slice a L.length c] w fun e w' => ∃ v, e = .returned v ∧ w'.ownsRow w.heap.size 45 3 v (L.take 70).length (flat3 (L.take 70)) ∧ Same (fun _ => False) w w' := by
  obtain ⟨i45, hi45, hz1, hz2, hz3⟩ := info45
  have hn2 : L.length ≤ 9223372036854775807 := by unfold maxLen at hl; omega
  have hmk := run_make (P := Try.prog) w.drew 22 45 i45 (.agg #[.int .i64 0, .int .i64 0, .int .i64 0]) Try.underlying22 hi45 hz1 .i64 .i64 0 70 (by omega) (by omega) (by omega) (by omega)
  obtain ⟨mc, hmc⟩ : ∃ mc, mc = madeCells (Value.agg #[.int .i64 0, .int .i64 0, .int .i64 0]).cells ((70 : Int).toNat * i45.size) := ⟨_, rfl⟩
  have hms : mc.size = 70 * 3 := by rw [hmc, size_madeCells, hz2]; rfl
  rw [← hmc] at hmk
  have hown := World.ownsRow_made (base := w.heap.size) (e := 45) (size := 3) w.drew mc 70 (Nat.le_refl _) (by unfold maxLen; omega) hms
  clear hmc
  obtain ⟨W1, hW1⟩ : ∃ W1, W1 = w.drew.alloc (.cells mc 45) := ⟨_, rfl⟩
  have hs1 : Same (fun _ => False) w W1 := by rw [hW1]; exact (Same.refl _ w).drew.alloc _
  rw [← hW1] at hmk hown
  have hz := hs1.size
  clear hW1
  have hr1 := (hr.same0 hs1).take 70
  have hm : min (L.length : Int) 70 = ((L.take 70).length : Nat) := by rw [List.length_take]; omega
  have hmn : (L.take 70).length ≤ L.length := by rw [List.length_take]; omega
  have hm70 : (L.take 70).length ≤ 70 := by rw [List.length_take]; omega
  obtain ⟨v', w2, hrun, hown2, hs2, -⟩ : ∃ v' w', (Builtin.append_ #[22, 22] 22 #[.slice (some ⟨w.heap.size, 0, none⟩) 0 70, .slice a (L.take 70).length c]).run Try.prog W1 = .ok v' w' ∧ w'.ownsRow w.heap.size 45 3 v' (0 + (L.take 70).length) ([] ++ flat3 (L.take 70)) ∧ Same (fun k => w.heap.size ≤ k) W1 w' ∧ True := by
    cases a with
    | none =>
      obtain ⟨rfl, rfl⟩ := hn0 rfl
      have h := run_append_owned_none (P := Try.prog) W1 w.heap.size 22 22 45 i45 3 Try.underlying22 hi45 _ 0 _ hown
      exact ⟨_, W1, h, hown, Same.refl _ _, trivial⟩
    | some x =>
      obtain ⟨v', w', h1, h2, h3, -⟩ := run_append_same (P := Try.prog) W1 w.heap.size 22 22 45 i45 (.agg #[.int .i64 0, .int .i64 0, .int .i64 0]) 3 24 Try.underlying22 hi45 hz1 hz2 hz3 rfl (by decide) _ 0 _ hown x (L.take 70).length c (flat3 (L.take 70)) (flat3_len _) hr1.cells (flat3_one _) (by unfold maxLen; omega) (by omega) (by omega)
      exact ⟨v', w', h1, h2, h3.mono (fun b _ h => by simp [Value.ownBlock] at h; omega), trivial⟩
  have hmc2 : (L.take 70).length ≤ c := by omega
  have H := Lib.hid (And.intro hown2 ((hs1.mono (T := fun b => w.heap.size ≤ b) (fun _ _ h => h.elim)).trans hs2))
  generalize (L.take 70).length = m at *
  generalize L.length = n at *
  clear hr hr1 hs1 hs2 hown hown2 hn0 hz1 hz2 hz3 hi45
  go_enter Try.func11, Try.ntmps11
  go_wp2_with fail
  go_region_law (refine step_append_run rfl (.tmp 3) (.tmp 8) 22 rfl _ _ rfl rfl hrun ?_)
  all_goals go_wp2
  all_goals go_ret
  all_goals refine ⟨v', rfl, by simpa using H.out.1, H.out.2.mono (fun b hb h => by omega)⟩
end Go.Proofs.Ytcnocfboklhjnaa
