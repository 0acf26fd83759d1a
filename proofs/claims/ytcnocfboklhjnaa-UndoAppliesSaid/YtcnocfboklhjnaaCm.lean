/- undo: places compared; a table's keys in their order. Condition: the table's size. -/
import Derived.Test.YtcnocfboklhjnaaCo
import Derived.Test.YtcnocfboklhjnaaLay
namespace Go.Proofs.Ytcnocfboklhjnaa
open Go.RowKit Go.Shelf Go.Lib Go.Sort
attribute [local go_sem] Oper.semAt_some

theorem or_any (w : World) (b : Nat) (x y : Int) (hx : w.cell? ⟨b, 0, none⟩ = some (.int .i64 x)) (hy : w.cell? ⟨b, 1, none⟩ = some (.int .i64 y)) :
    Calls Try.prog 48 #[.slice (some ⟨b, 0, none⟩) 2 2] w fun e w' => e = .returned (.int .i64 (if x = 0 then y else x)) ∧ w' = w := by
  by_cases h1 : x = 0
  · subst h1
    rw [if_pos rfl]
    by_cases h2 : y = 0
    · subst h2
      go_enter Try.func48, Try.ntmps48
      go_wp2
      go_loopw [8] (fun v7 wr => ∃ i : Nat, i ≤ 2 ∧ v7 = .int .i64 i ∧ wr = w) (fun v7 _ => 2 - (intOf v7).toNat)
      case atStart => exact ⟨0, by omega, rfl, rfl⟩
      case round =>
        obtain ⟨i, hi, rfl, rfl⟩ := hrel
        rcases (by omega : i = 0 ∨ i = 1 ∨ i = 2) with rfl | rfl | rfl
        · go_wp2
          go_round
          case rel => exact ⟨1, by omega, by go_num, by simp⟩
          case measure => simp [intOf]
        · go_wp2
          go_round
          case rel => exact ⟨2, by omega, by go_num, by simp⟩
          case measure => simp [intOf]
        · go_wp2
          go_ret
          exact ⟨rfl, rfl⟩
    · have h2' : (y == 0) = false := by simpa using h2
      go_enter Try.func48, Try.ntmps48
      go_wp2
      go_loopw [8] (fun v7 wr => ∃ i : Nat, i ≤ 1 ∧ v7 = .int .i64 i ∧ wr = w) (fun v7 _ => 2 - (intOf v7).toNat)
      case atStart => exact ⟨0, by omega, rfl, rfl⟩
      case round =>
        obtain ⟨i, hi, rfl, rfl⟩ := hrel
        rcases (by omega : i = 0 ∨ i = 1) with rfl | rfl
        · go_wp2
          go_round
          case rel => exact ⟨1, by omega, by go_num, by simp⟩
          case measure => simp [intOf]
        · go_wp2
          go_ret
          exact ⟨rfl, rfl⟩
  · rw [if_neg h1]
    have h1' : (x == 0) = false := by simpa using h1
    go_enter Try.func48, Try.ntmps48
    go_wp2
    go_loopw [8] (fun v7 wr => v7 = .int .i64 0 ∧ wr = w) (fun v7 _ => 0)
    case atStart => exact ⟨rfl, rfl⟩
    case round =>
      obtain ⟨rfl, rfl⟩ := hrel
      go_wp2
      go_ret
      exact ⟨rfl, rfl⟩
/-- Places compared. -/
def cmpP (p q : Int × Int) : Int := if Lib.compareInt p.1 q.1 = 0 then Lib.compareInt p.2 q.2 else Lib.compareInt p.1 q.1
set_option maxRecDepth 100000 in
theorem compare_any (W : World) (p q : Int × Int) :
    Calls Try.prog 36 #[.agg #[.int .i64 p.1, .int .i64 p.2], .agg #[.int .i64 q.1, .int .i64 q.2]] W fun e w' => e = .returned (.int .i64 (cmpP p q)) ∧ ∃ n os, w' = grow (W.drewN n) os := by
  have hcon := fun x y W' => AnyG.cmp_Compare_int Try.cmpInt x y W'
  change ∀ x y W', Calls Try.prog 49 _ _ _ at hcon
  unfold cmpP
  have hc1 := hcon p.1 q.1
  have hc2 := hcon p.2 q.2
  clear hcon
  generalize Lib.compareInt p.1 q.1 = r1 at *
  generalize Lib.compareInt p.2 q.2 = r2 at *
  obtain ⟨r, hr⟩ : ∃ r, r = if r1 = 0 then r2 else r1 := ⟨_, rfl⟩
  have hor : ∀ (W' : World) (b : Nat), W'.cell? ⟨b, 0, none⟩ = some (.int .i64 r1) → W'.cell? ⟨b, 1, none⟩ = some (.int .i64 r2) → Calls Try.prog 48 #[.slice (some ⟨b, 0, none⟩) 2 2] W' fun e w' => e = .returned (.int .i64 r) ∧ w' = W' := by rw [hr]; exact fun W' b h1 h2 => or_any W' b r1 r2 h1 h2
  rw [← hr]
  clear hr
  obtain ⟨W1, hW1⟩ : ∃ W1, W1 = (W.alloc (.cells #[.int .i64 p.1, .int .i64 p.2] 58)).alloc (.cells #[.int .i64 q.1, .int .i64 q.2] 58) := ⟨_, rfl⟩
  have a1 : W1.cell? ⟨W.heap.size, 0, none⟩ = some (.int .i64 p.1) := by rw [hW1]; simp [go_sem]
  have a2 : W1.cell? ⟨W.heap.size, 1, none⟩ = some (.int .i64 p.2) := by rw [hW1]; simp [go_sem]
  have a3 : W1.cell? ⟨W.heap.size + 1, 0, none⟩ = some (.int .i64 q.1) := by rw [hW1]; simp [go_sem]
  have a4 : W1.cell? ⟨W.heap.size + 1, 1, none⟩ = some (.int .i64 q.2) := by rw [hW1]; simp [go_sem]
  have hg : ∃ n os, W1.drew.alloc (.cells #[.int .i64 r1, .int .i64 r2] 3) = grow (W.drewN n) os := by
    rw [hW1]
    rw [alloc_eq_grow, alloc_eq_grow, alloc_eq_grow, grow_grow]
    generalize (#[Obj.cells #[Value.int IntKind.i64 p.fst, Value.int IntKind.i64 p.snd] 58] ++ #[Obj.cells #[Value.int IntKind.i64 q.fst, Value.int IntKind.i64 q.snd] 58]) = os
    exact ⟨1, os ++ #[Obj.cells #[Value.int IntKind.i64 r1, Value.int IntKind.i64 r2] 3], by rw [← grow_grow]; rfl⟩
  go_enter Try.func36, Try.ntmps36
  go_wp2_with fail
  rw [← hW1]
  clear hW1
  go_still_tail 10, (by kernel_rfl)
  still_call (hc1 _)
  repeat still_step
  still_call (hc2 _)
  try refine wpStill_nil ?_
  go_wp2_with (go_at_call 48; refine (hor _ _ (by simp [go_sem]) (by simp [go_sem])).mono ?_; rintro e w' ⟨rfl, rfl⟩)
  go_ret
  exact ⟨rfl, hg⟩
end Go.Proofs.Ytcnocfboklhjnaa
