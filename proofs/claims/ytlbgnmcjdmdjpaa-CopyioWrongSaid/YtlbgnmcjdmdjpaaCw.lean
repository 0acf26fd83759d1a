/- The walk of CopyioWrong. Conditions: the arguments' form. -/
import Derived.Test.YtlbgnmcjdmdjpaaCpJ
import Derived.Test.YtlbgnmcjdmdjpaaQ
namespace Go.Proofs.Ytlbgnmcjdmdjpaa
open Go.RowKit Go.Shelf
attribute [local go_sem] Oper.semAt_some

set_option maxHeartbeats 3200000 in
set_option maxRecDepth 8192 in
theorem cwrong_walk (w : World) (o : Bool) (addr n : Int) (s : ByteArray) (root : Int) (ha : In64 addr) (hn : In64 n) (hs : s.size ≤ 9223372036854775807) :
    Calls Try.prog 11 #[.agg #[.bool o, .int .i64 addr, .int .i64 n, .string s], .int .i64 root] w fun e w' => e = .returned (.bool true) ∧ Same (fun _ => False) w w' := by
  by_cases hr : root < -1 ∨ 9 < root
  · have hb : (decide (root < -1) || decide (9 < root)) = true := by simpa using hr
    clear hr
    go_enter Try.func11, Try.ntmps11
    go_wp2_with fail
    refine (shown3 _).mono ?_
    rintro e w1 ⟨rfl, hs1⟩
    go_wp2
    all_goals
      go_ret
      exact ⟨rfl, (same_alloc _).trans hs1⟩
  have hb1 : decide (root < -1) = false := by simp; omega
  have hb2 : decide (9 < root) = false := by simp; omega
  clear hr
  go_enter Try.func11, Try.ntmps11
  go_wp2_with fail
  refine (shown3 _).mono ?_
  rintro e w1 ⟨rfl, hs1⟩
  have c0 := hs1.cell (a := ⟨w.heap.size, 0, none⟩) (v := .bool o) (by simp) (by simp)
  have c1 := hs1.cell (a := ⟨w.heap.size, 1, none⟩) (v := .int .i64 addr) (by simp) (by simp)
  have c2 := hs1.cell (a := ⟨w.heap.size, 2, none⟩) (v := .int .i64 n) (by simp) (by simp)
  have c3 := hs1.cell (a := ⟨w.heap.size, 3, none⟩) (v := .string s) (by simp) (by simp)
  have hs01 : Same (fun _ => False) w w1 := (same_alloc _).trans hs1
  clear hs1
  go_wp2_with fail
  refine (new_any _ 8 (by omega) (by omega)).mono ?_
  rintro e w2 ⟨f, fb, rfl, hf, hfb, hM, hs2⟩
  have hM2 : MemAt w2 f fb mm8 := hM
  have d0 := hs2.cell c0 (by simp)
  have d1 := hs2.cell c1 (by simp)
  have d2 := hs2.cell c2 (by simp)
  have d3 := hs2.cell c3 (by simp)
  have hs02 := hs01.trans hs2
  have hfo : FramesOk mm8 root := fun p hp => by rw [mm8_walk] at hp; exact absurd hp (by decide)
  have hi := in_c hM2 root addr n ha hn hfo
  have HI := Lib.hid hi
  clear c0 c1 c2 c3 hM hs2 hs01 hi hfo
  go_wp2_with fail
  refine HI.out.mono ?_
  rintro e w3 ⟨er, s', rfl, ⟨hcr, _⟩, hs3⟩
  have her : er = 10 := by
    rcases hcr with ⟨_, h⟩ | ⟨h, _⟩ | ⟨h, _⟩ | ⟨h, _⟩
    · exact h
    all_goals (rw [mm8_used] at h; cases h)
  subst her
  have e0 := hs3.cell d0 (by simp)
  have e1 := hs3.cell d1 (by simp)
  have e2 := hs3.cell d2 (by simp)
  have e3 := hs3.cell d3 (by simp)
  have hs03 := hs02.trans hs3
  have hM3 := hM2.same0 hs3
  clear d0 d1 d2 d3 hs02 hs3 hcr hM2
  go_wp2_with fail
  refine (in_nil _ root addr n).mono ?_
  rintro e w4 ⟨rfl, hs4⟩
  have f0 := hs4.cell e0 (by simp)
  have f1 := hs4.cell e1 (by simp)
  have f2 := hs4.cell e2 (by simp)
  have f3 := hs4.cell e3 (by simp)
  have hs04 := hs03.trans hs4
  have hM4 := hM3.same0 hs4
  clear e0 e1 e2 e3 hs03 hs4 hM3
  go_wp2_with fail
  refine (out_bad hM4 root addr s ha hs (mm8_used root)).mono ?_
  rintro e w5 ⟨rfl, hs5⟩
  have g0 := hs5.cell f0 (by simp)
  have g1 := hs5.cell f1 (by simp)
  have g2 := hs5.cell f2 (by simp)
  have g3 := hs5.cell f3 (by simp)
  have hs05 := hs04.trans hs5
  clear f0 f1 f2 f3 hs04 hs5 hM4
  go_wp2_with fail
  refine (out_nil _ root addr s).mono ?_
  rintro e w6 ⟨rfl, hs6⟩
  have h0 := hs6.cell g0 (by simp)
  have h1 := hs6.cell g1 (by simp)
  have h2 := hs6.cell g2 (by simp)
  have hs06 := hs05.trans hs6
  clear g0 g1 g2 g3 hs05 hs6
  go_wp2_with fail
  refine (check_nil_c _ root addr n o).mono ?_
  rintro e w7 ⟨rfl, hs7⟩
  have hs07 := hs06.trans hs7
  clear h0 h1 h2 hs06 hs7
  go_wp2
  go_ret
  exact ⟨rfl, hs07⟩
end Go.Proofs.Ytlbgnmcjdmdjpaa
