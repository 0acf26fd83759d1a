/- undo: rows of triples; of, are. No condition. -/
import Derived.Test.YtcnocfboklhjnaaSo
namespace Go.Proofs.Ytcnocfboklhjnaa
open Go.RowKit Go.Shelf
attribute [local go_sem] Oper.semAt_some

abbrev Tri := Un.Ad
abbrev tv (t : Tri) : Value := .agg #[.int .i64 t.id, .int .i64 t.num, .int .i64 t.n]
theorem add_add2 (a : Addr) (n k : Nat) : (a.add n).add k = a.add (n + k) := by
  unfold Addr.add
  by_cases h1 : n = 0 <;> by_cases h2 : k = 0 <;> simp [h1, h2, Nat.add_assoc]
/-- A triple's cells, as a load spells them. -/
structure TriAt (w : World) (x : Addr) (t : Tri) : Prop where
  c0 : w.cell? x = some (.int .i64 t.id)
  c1 : w.cell? ⟨x.block, x.off + 1, none⟩ = some (.int .i64 t.num)
  c2 : w.cell? ⟨x.block, x.off + 2, none⟩ = some (.int .i64 t.n)
theorem TriAt.same {w w' : World} {S : Nat → Prop} {x : Addr} {t : Tri} (h : TriAt w x t) (hs : Same S w w') (hS : ¬ S x.block) : TriAt w' x t :=
  ⟨hs.cell h.c0 hS, hs.cell h.c1 hS, hs.cell h.c2 hS⟩
/-- A row of triples. -/
def TriR (w : World) (a : Option Addr) (l : List Tri) : Prop := ∀ i t, l[i]? = some t → ∃ x, a = some x ∧ TriAt w (x.add (i * 3)) t
theorem TriR.same {w w' : World} {S : Nat → Prop} {a : Option Addr} {l : List Tri} (h : TriR w a l) (hs : Same S w w') (hS : ∀ x, a = some x → ¬ S x.block) : TriR w' a l := fun i t hi => by
  obtain ⟨x, hx, ht⟩ := h i t hi
  refine ⟨x, hx, ht.same hs ?_⟩
  rw [show (x.add (i * 3)).block = x.block by unfold Addr.add; split <;> rfl]
  exact hS x hx
theorem TriR.same0 {w w' : World} {a : Option Addr} {l : List Tri} (h : TriR w a l) (hs : Same (fun _ => False) w w') : TriR w' a l := h.same hs (fun _ _ h => h)
/-- The adjustments within their bounds: an int's. -/
def In64 (p : Int) : Prop := -9223372036854775808 ≤ p ∧ p ≤ 9223372036854775807
def okS (n : Int) : Bool := decide (-32767 ≤ n) && decide (n ≤ 32767)
theorem of_any (w : World) (t : Tri) :
    Calls Try.prog 35 #[.agg #[.int .i64 t.id, .int .i64 t.num, .int .i64 t.n]] w fun e w' => e = .returned (.agg #[.int .i64 t.id, .int .i64 t.num]) ∧ Same (fun _ => False) w w' := by
  go_enter Try.func35, Try.ntmps35
  go_wp2
  exact bodyPost_ret (v := .agg #[.int .i64 t.id, .int .i64 t.num]) (by simp [results, Try.results35, go_sem]) rfl ⟨rfl, (same_alloc _).alloc _⟩
theorem are_any (w : World) (b : Nat) (n : Int) (hn : w.cell? ⟨b, 0, none⟩ = some (.int .i64 n)) :
    Calls Try.prog 30 #[.int .i64 32767, .slice (some ⟨b, 0, none⟩) 1 1] w fun e w' => e = .returned (.bool (okS n)) ∧ w' = w := by
  by_cases h1 : okS n = true
  · have h1' : -32767 ≤ n ∧ n ≤ 32767 := by simpa [okS] using h1
    obtain ⟨h1a, h1b⟩ := h1'
    have e1 : decide (n < -32767) = false := by simp; omega
    have e2 : decide (32767 < n) = false := by simp; omega
    rw [h1]
    clear h1
    go_enter Try.func30, Try.ntmps30
    go_wp2
    go_loopw [9] (fun v7 wr => ∃ i : Nat, i ≤ 1 ∧ v7 = .int .i64 i ∧ wr = w) (fun v7 _ => 1 - (intOf v7).toNat)
    case atStart => exact ⟨0, by omega, rfl, rfl⟩
    case round =>
      obtain ⟨i, hi, rfl, rfl⟩ := hrel
      rcases (by omega : i = 0 ∨ i = 1) with rfl | rfl
      · go_wp2
        go_round
        case rel => exact ⟨1, by omega, by go_num, by simp⟩
        case measure => simp [intOf]
      · go_wp2
        go_ret
        exact ⟨rfl, rfl⟩
  · have h2' : n < -32767 ∨ 32767 < n := by simp [okS] at h1; omega
    rw [show okS n = false by simpa using h1]
    clear h1
    go_enter Try.func30, Try.ntmps30
    go_wp2
    go_loopw [9] (fun v7 wr => v7 = .int .i64 0 ∧ wr = w) (fun v7 _ => 0)
    case atStart => exact ⟨rfl, rfl⟩
    case round =>
      obtain ⟨rfl, rfl⟩ := hrel
      rcases h2' with h2' | h2'
      · go_wp2
        go_ret
        exact ⟨rfl, rfl⟩
      · have h3 : decide (n < -32767) = false := by simp; omega
        go_wp2
        go_ret
        exact ⟨rfl, rfl⟩
end Go.Proofs.Ytcnocfboklhjnaa
