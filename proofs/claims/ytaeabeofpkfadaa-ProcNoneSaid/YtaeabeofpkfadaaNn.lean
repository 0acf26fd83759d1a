/- The walk of ProcNone. No condition. -/
import Derived.Test.YtaeabeofpkfadaaR
import Derived.Test.YtaeabeofpkfadaaX
import Derived.Test.YtaeabeofpkfadaaEq
namespace Go.Proofs.Ytaeabeofpkfadaa
open Go.RowKit Go.Shelf
attribute [local go_sem] Oper.semAt_some

set_option maxHeartbeats 3200000 in
set_option maxRecDepth 16384 in
theorem none_walk (w : World) (d pid stat uid gid : Int) (ch : ByteArray) :
    Calls Try.prog 6 #[.agg #[.int .i64 d, .int .i64 pid, .int .i64 stat, .int .i64 uid, .int .i64 gid, .string ch]] w fun e w' => e = .returned (.bool true) ∧ Same (fun _ => False) w w' := by
  go_enter Try.func6, Try.ntmps6
  have s0 : Same (fun _ => False) w (w.alloc (.cells #[.int .i64 d, .int .i64 pid, .int .i64 stat, .int .i64 uid, .int .i64 gid, .string ch] 47)) := same_alloc _
  go_wp2_with fail
  refine (shown_any _).mono ?_
  rintro e w1 ⟨rfl, hs1⟩
  have b1 := hs1.cell (a := ⟨w.heap.size, 1, none⟩) (v := .int .i64 pid) (by simp [go_sem]) (fun h => h)
  have b2 := hs1.cell (a := ⟨w.heap.size, 2, none⟩) (v := .int .i64 stat) (by simp [go_sem]) (fun h => h)
  have b3 := hs1.cell (a := ⟨w.heap.size, 3, none⟩) (v := .int .i64 uid) (by simp [go_sem]) (fun h => h)
  have b4 := hs1.cell (a := ⟨w.heap.size, 4, none⟩) (v := .int .i64 gid) (by simp [go_sem]) (fun h => h)
  have b5 := hs1.cell (a := ⟨w.heap.size, 5, none⟩) (v := .string ch) (by simp [go_sem]) (fun h => h)
  have S1 := s0.trans hs1
  clear hs1 s0
  go_wp2_with fail
  refine (get_nil _ pid).mono ?_
  rintro e w2 ⟨rfl, hs2⟩
  have c1 := hs2.cell b1 (fun h => h)
  have c2 := hs2.cell b2 (fun h => h)
  have c3 := hs2.cell b3 (fun h => h)
  have c4 := hs2.cell b4 (fun h => h)
  have c5 := hs2.cell b5 (fun h => h)
  have l2 := World.block_lt_of_cell? _ _ c1
  have S2 := S1.trans hs2
  clear hs2 S1 b1 b2 b3 b4 b5
  unfold Pr.zero
  go_wp2_with fail
  refine (fork_nil _ pid).mono ?_
  rintro e w3 ⟨rfl, rfl⟩
  go_wp2_with fail
  refine (wait_nil _ pid).mono ?_
  rintro e w4 ⟨rfl, hs4⟩
  have hsx : Same (fun _ => False) w2 w4 := (same_alloc _).trans hs4
  have b1 := hsx.cell c1 (fun h => h)
  have b2 := hsx.cell c2 (fun h => h)
  have b3 := hsx.cell c3 (fun h => h)
  have b4 := hsx.cell c4 (fun h => h)
  have b5 := hsx.cell c5 (fun h => h)
  have p0 := hs4.cell (a := ⟨w2.heap.size, 0, none⟩) (v := .int .i64 0) (by simp [go_sem]) (fun h => h)
  have p1 := hs4.cell (a := ⟨w2.heap.size, 1, none⟩) (v := .int .i64 0) (by simp [go_sem]) (fun h => h)
  have p2 := hs4.cell (a := ⟨w2.heap.size, 2, none⟩) (v := .int .i64 0) (by simp [go_sem]) (fun h => h)
  have p3 := hs4.cell (a := ⟨w2.heap.size, 3, none⟩) (v := .int .i64 0) (by simp [go_sem]) (fun h => h)
  have p4 := hs4.cell (a := ⟨w2.heap.size, 4, none⟩) (v := .int .i64 0) (by simp [go_sem]) (fun h => h)
  have p5 := hs4.cell (a := ⟨w2.heap.size, 5, none⟩) (v := .string ⟨#[]⟩) (by simp [go_sem]) (fun h => h)
  have p6 := hs4.cell (a := ⟨w2.heap.size, 6, none⟩) (v := .int .i64 0) (by simp [go_sem]) (fun h => h)
  have p7 := hs4.cell (a := ⟨w2.heap.size, 7, none⟩) (v := .bool false) (by simp [go_sem]) (fun h => h)
  have S4 := S2.trans hsx
  clear hs4 hsx S2 c1 c2 c3 c4 c5
  go_wp2_with fail
  refine (become_nil _ pid uid gid).mono ?_
  rintro e w5 ⟨rfl, hs5⟩
  have c1 := hs5.cell b1 (fun h => h)
  have c2 := hs5.cell b2 (fun h => h)
  have c5 := hs5.cell b5 (fun h => h)
  have S5 := S4.trans hs5
  clear hs5 S4 b1 b2 b3 b4 b5 p0 p1 p2 p3 p4 p5 p6 p7
  go_wp2_with fail
  refine (exit_nil _ pid stat).mono ?_
  rintro e w6 ⟨rfl, hs6⟩
  have b1 := hs6.cell c1 (fun h => h)
  have b5 := hs6.cell c5 (fun h => h)
  have S6 := S5.trans hs6
  clear hs6 S5 c1 c2 c5
  go_wp2_with fail
  refine (kill_nil _ pid).mono ?_
  rintro e w7 ⟨rfl, rfl⟩
  go_wp2_with fail
  refine (sleep_nil _ pid ch).mono ?_
  rintro e w8 ⟨rfl, rfl⟩
  go_wp2_with fail
  refine (wake_nil _ ch).mono ?_
  rintro e w9 ⟨rfl, hs9⟩
  go_wp2_with fail
  refine (pids_nil _).mono ?_
  rintro e w10 ⟨rfl, rfl⟩
  go_wp2
  go_ret
  exact ⟨rfl, S6.trans hs9⟩
theorem arr6 {cs : Array Value} {a b c d e f : Value} (h : cs.size = 6) (h0 : cs.toList[0]? = some a) (h1 : cs.toList[1]? = some b) (h2 : cs.toList[2]? = some c) (h3 : cs.toList[3]? = some d) (h4 : cs.toList[4]? = some e) (h5 : cs.toList[5]? = some f) : cs = #[a, b, c, d, e, f] := by
  obtain ⟨l⟩ := cs
  match l, h with
  | [x0, x1, x2, x3, x4, x5], _ => simp_all
end Go.Proofs.Ytaeabeofpkfadaa
