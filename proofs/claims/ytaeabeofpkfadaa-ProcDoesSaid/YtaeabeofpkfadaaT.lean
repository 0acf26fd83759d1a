/- proc: Become, text. Conditions: the table's form. -/
import Derived.Test.YtaeabeofpkfadaaB
namespace Go.Proofs.Ytaeabeofpkfadaa
open Go.RowKit Go.Shelf
attribute [local go_sem] Oper.semAt_some

def okU (n : Int) : Bool := decide (0 ≤ n) && decide (n ≤ 65535)
theorem are_any (w : World) (b : Nat) (u g : Int) (hu : w.cell? ⟨b, 0, none⟩ = some (.int .i64 u)) (hg : w.cell? ⟨b, 1, none⟩ = some (.int .i64 g)) :
    Calls Try.prog 48 #[.slice (some ⟨b, 0, none⟩) 2 2] w fun e w' => e = .returned (.bool (okU u && okU g)) ∧ w' = w := by
  by_cases h1 : okU u = true
  · have h1' : 0 ≤ u ∧ u ≤ 65535 := by simpa [okU] using h1
    obtain ⟨h1a, h1b⟩ := h1'
    by_cases h2 : okU g = true
    · have h2' : 0 ≤ g ∧ g ≤ 65535 := by simpa [okU] using h2
      obtain ⟨h2a, h2b⟩ := h2'
      rw [h1, h2]
      clear h1 h2
      go_enter Try.func48, Try.ntmps48
      go_wp2
      go_loopw [7] (fun v7 wr => ∃ i : Nat, i ≤ 2 ∧ v7 = .int .i64 i ∧ wr = w) (fun v7 _ => 2 - (intOf v7).toNat)
      case atStart => exact ⟨0, by omega, rfl, rfl⟩
      case round =>
        obtain ⟨i, hi, rfl, rfl⟩ := hrel
        rcases (by omega : i = 0 ∨ i = 1 ∨ i = 2) with rfl | rfl | rfl
        · go_wp2
          go_round
          case rel => exact ⟨1, by omega, by go_num, by simp⟩
          case measure => simp [intOf]
        · go_wp2
          go_round
          case rel => exact ⟨2, by omega, by go_num, by simp⟩
          case measure => simp [intOf]
        · go_wp2
          go_ret
          exact ⟨rfl, rfl⟩
    · have h2' : g < 0 ∨ 65535 < g := by simp [okU] at h2; omega
      rw [h1, show okU g = false by simpa using h2]
      clear h1 h2
      go_enter Try.func48, Try.ntmps48
      go_wp2
      go_loopw [7] (fun v7 wr => ∃ i : Nat, i ≤ 1 ∧ v7 = .int .i64 i ∧ wr = w) (fun v7 _ => 2 - (intOf v7).toNat)
      case atStart => exact ⟨0, by omega, rfl, rfl⟩
      case round =>
        obtain ⟨i, hi, rfl, rfl⟩ := hrel
        rcases (by omega : i = 0 ∨ i = 1) with rfl | rfl
        · go_wp2
          go_round
          case rel => exact ⟨1, by omega, by go_num, by simp⟩
          case measure => simp [intOf]
        · rcases h2' with h2' | h2'
          · go_wp2
            go_ret
            exact ⟨rfl, rfl⟩
          · have h3 : decide (g < 0) = false := by simp; omega
            go_wp2
            go_ret
            exact ⟨rfl, rfl⟩
  · have h1' : u < 0 ∨ 65535 < u := by simp [okU] at h1; omega
    rw [show okU u = false by simpa using h1, Bool.false_and]
    clear h1
    go_enter Try.func48, Try.ntmps48
    go_wp2
    go_loopw [7] (fun v7 wr => v7 = .int .i64 0 ∧ wr = w) (fun v7 _ => 0)
    case atStart => exact ⟨rfl, rfl⟩
    case round =>
      obtain ⟨rfl, rfl⟩ := hrel
      rcases h1' with h1' | h1'
      · go_wp2
        go_ret
        exact ⟨rfl, rfl⟩
      · have h3 : decide (u < 0) = false := by simp; omega
        go_wp2
        go_ret
        exact ⟨rfl, rfl⟩
def agg2 (u g : Int) : Value := .agg #[.int .i64 u, .int .i64 g]
theorem credRight_any (w : World) (u g : Int) : Calls Try.prog 39 #[.agg #[.int .i64 u, .int .i64 g]] w fun e w' => e = .returned (.bool (okU u && okU g)) ∧ Same (fun _ => False) w w' := by
  have hsA : Same (fun _ => False) w ((w.alloc (.cells #[.int .i64 u, .int .i64 g] 32)).alloc (.cells #[.int .i64 u, .int .i64 g] 3)) := (same_alloc _).alloc _
  have h := are_any ((w.alloc (.cells #[.int .i64 u, .int .i64 g] 32)).alloc (.cells #[.int .i64 u, .int .i64 g] 3)) (w.heap.size + 1) u g (by simp [go_sem]) (by simp [go_sem])
  generalize (okU u && okU g) = r at h
  go_enter Try.func39, Try.ntmps39
  go_wp2_with fail
  refine h.mono ?_
  rintro e w1 ⟨rfl, rfl⟩
  go_wp2
  go_ret
  exact ⟨rfl, hsA⟩
end Go.Proofs.Ytaeabeofpkfadaa
