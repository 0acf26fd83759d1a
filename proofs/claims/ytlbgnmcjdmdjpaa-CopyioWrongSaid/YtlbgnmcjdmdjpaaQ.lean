import Derived.Test.YtlbgnmcjdmdjpaaP
namespace Go.Proofs.Ytlbgnmcjdmdjpaa
open Go.RowKit Go.Shelf
attribute [local go_sem] Oper.semAt_some

theorem wrap2 (d : Int) : (IntKind.u64.wrap d).tmod 2 = d % 2 := by
  have : IntKind.u64.wrap d = d % 2 ^ 64 := rfl
  rw [this, Int.tmod_eq_emod_of_nonneg (by omega)]
  omega
def mm8 : Mm := ⟨8, fun _ => 0, fun _ _ => 0⟩
theorem mm8_used (a : Int) : mm8.isUsed a = false := by simp [Mm.isUsed, mm8]
theorem mm8_check (a b : Int) : mm8.check a b = 10 := by simp [Mm.check, mm8_used]
theorem mm8_walk (a b : Int) : mm8.walk a b = (0, 0, 10) := by simp [Mm.walk, mm8_check]
theorem mm8_unmap (a b : Int) : mm8.unmap a b = (mm8, 0, 10) := by simp [Mm.unmap, mm8_walk]
theorem mm8_map (a b c d : Int) : mm8.map a b c d = (mm8, 10) := by simp [Mm.map, mm8_check]
theorem mm8_drop (a : Int) : mm8.drop a = (mm8, 10) := by simp [Mm.drop, mm8_check]

set_option maxHeartbeats 3200000 in
set_option maxRecDepth 8192 in
theorem wrong_walk (w : World) (d page frame flags root : Int) (hp : In64 page) :
    Calls Try.prog 8 #[.agg #[.int .i64 d, .int .i64 page, .int .i64 frame, .int .i64 flags], .int .i64 root] w fun e w' => e = .returned (.bool true) ∧ Same (fun _ => False) w w' := by
  have hw2 := wrap2 d
  by_cases hr : root < -1 ∨ 9 < root
  · have hb : (decide (root < -1) || decide (9 < root)) = true := by simpa using hr
    clear hr
    go_enter Try.func8, Try.ntmps8
    go_wp2_with fail
    refine (shown2 _).mono ?_
    rintro e w1 ⟨rfl, hs1⟩
    go_wp2
    all_goals
      go_ret
      exact ⟨rfl, (same_alloc _).trans hs1⟩
  · have hb1 : decide (root < -1) = false := by simp; omega
    have hb2 : decide (9 < root) = false := by simp; omega
    clear hr
    go_enter Try.func8, Try.ntmps8
    go_wp2_with fail
    refine (shown2 _).mono ?_
    rintro e w1 ⟨rfl, hs1⟩
    have c0 := hs1.cell (a := ⟨w.heap.size, 0, none⟩) (v := .int .i64 d) (by simp) (by simp)
    have c1 := hs1.cell (a := ⟨w.heap.size, 1, none⟩) (v := .int .i64 page) (by simp) (by simp)
    have c2 := hs1.cell (a := ⟨w.heap.size, 2, none⟩) (v := .int .i64 frame) (by simp) (by simp)
    have c3 := hs1.cell (a := ⟨w.heap.size, 3, none⟩) (v := .int .i64 flags) (by simp) (by simp)
    have hs01 : Same (fun _ => False) w w1 := (same_alloc _).trans hs1
    go_wp2_with fail
    refine (new_any _ 8 (by omega) (by omega)).mono ?_
    rintro e w2 ⟨f, fb, rfl, hf, hfb, hM, hs2⟩
    have hM2 : MemAt w2 f fb mm8 := hM
    have d0 := hs2.cell c0 (by simp)
    have d1 := hs2.cell c1 (by simp)
    have d2 := hs2.cell c2 (by simp)
    have d3 := hs2.cell c3 (by simp)
    have hs02 := hs01.trans hs2
    have hlt := World.block_lt_of_cell? _ _ c0
    simp only at hlt
    clear c0 c1 c2 c3 hM hs1 hs2
    by_cases hd : d % 2 = 0
    · have hb3 : (d % 2 == 0) = true := by simpa using hd
      go_wp2_with fail
      refine (walk_nil _ root page hp).mono ?_
      rintro e v0 ⟨rfl, t0⟩
      have q0_0 := t0.cell d0 (by simp)
      have q0_1 := t0.cell d1 (by simp)
      have q0_2 := t0.cell d2 (by simp)
      have q0_3 := t0.cell d3 (by simp)
      have u0 := hs02.trans t0
      go_wp2_with fail
      refine (unmap_nil _ root page hp).mono ?_
      rintro e v1 ⟨rfl, t1⟩
      have q1_0 := t1.cell q0_0 (by simp)
      have q1_1 := t1.cell q0_1 (by simp)
      have q1_2 := t1.cell q0_2 (by simp)
      have q1_3 := t1.cell q0_3 (by simp)
      have u1 := u0.trans t1
      go_wp2_with fail
      refine (pages_nil _ root).mono ?_
      rintro e v2 ⟨rfl, t2⟩
      have q2_0 := t2.cell q1_0 (by simp)
      have q2_1 := t2.cell q1_1 (by simp)
      have q2_2 := t2.cell q1_2 (by simp)
      have q2_3 := t2.cell q1_3 (by simp)
      have u2 := u1.trans t2
      go_wp2_with fail
      refine (map_nil _ root page frame flags).mono ?_
      rintro e v3 ⟨rfl, rfl⟩
      go_wp2_with fail
      refine (drop_nil _ root).mono ?_
      rintro e v4 ⟨rfl, t4⟩
      have q4_0 := t4.cell q2_0 (by simp)
      have q4_1 := t4.cell q2_1 (by simp)
      have q4_2 := t4.cell q2_2 (by simp)
      have q4_3 := t4.cell q2_3 (by simp)
      have u4 := u2.trans t4
      go_wp2
      go_ret
      exact ⟨rfl, u4⟩
    · have hb3 : (d % 2 == 0) = false := by simpa using hd
      go_wp2_with fail
      refine (walk_any hM2 root page hp).mono ?_
      rintro e v0 ⟨rfl, t0⟩
      rw [mm8_walk]
      have N0 := hM2.same0 t0
      have u0 := (hs02.mono (T := fun k => w.heap.size ≤ k) (fun _ _ h => h.elim)).trans (t0.mono (fun _ _ h => h.elim))
      have q0_0 := t0.cell d0 (by simp)
      have q0_1 := t0.cell d1 (by simp)
      have q0_2 := t0.cell d2 (by simp)
      have q0_3 := t0.cell d3 (by simp)
      go_wp2_with fail
      refine (unmap_any N0 root page hp).mono ?_
      rintro e v1 ⟨rfl, N1, t1⟩
      rw [mm8_unmap] at N1 ⊢
      have u1 := u0.trans (t1.mono (fun k _ h => by omega))
      have q1_0 := t1.cell q0_0 (by simp; omega)
      have q1_1 := t1.cell q0_1 (by simp; omega)
      have q1_2 := t1.cell q0_2 (by simp; omega)
      have q1_3 := t1.cell q0_3 (by simp; omega)
      go_wp2_with fail
      refine (pages_bad N1 root (by rw [mm8_check]; decide)).mono ?_
      rintro e v2 ⟨rfl, t2⟩
      rw [mm8_check]
      have N2 := N1.same0 t2
      have u2 := u1.trans (t2.mono (fun _ _ h => h.elim))
      have q2_0 := t2.cell q1_0 (by simp)
      have q2_1 := t2.cell q1_1 (by simp)
      have q2_2 := t2.cell q1_2 (by simp)
      have q2_3 := t2.cell q1_3 (by simp)
      go_wp2_with fail
      refine (map_any N2 root page frame flags hp).mono ?_
      rintro e v3 ⟨rfl, N3, t3⟩
      rw [mm8_map] at N3 ⊢
      have u3 := u2.trans (t3.mono (fun k _ h => by omega))
      have q3_0 := t3.cell q2_0 (by simp; omega)
      have q3_1 := t3.cell q2_1 (by simp; omega)
      have q3_2 := t3.cell q2_2 (by simp; omega)
      have q3_3 := t3.cell q2_3 (by simp; omega)
      go_wp2_with fail
      refine (drop_any N3 root).mono ?_
      rintro e v4 ⟨rfl, N4, t4⟩
      rw [mm8_drop] at N4 ⊢
      have u4 := u3.trans (t4.mono (fun k _ h => by omega))
      have q4_0 := t4.cell q3_0 (by simp; omega)
      have q4_1 := t4.cell q3_1 (by simp; omega)
      have q4_2 := t4.cell q3_2 (by simp; omega)
      have q4_3 := t4.cell q3_3 (by simp; omega)
      go_wp2
      go_ret
      exact ⟨rfl, u4.mono (fun k h h' => by omega)⟩
end Go.Proofs.Ytlbgnmcjdmdjpaa
