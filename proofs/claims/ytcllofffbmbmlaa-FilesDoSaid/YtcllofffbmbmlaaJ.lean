import Derived.Test.YtcllofffbmbmlaaH
namespace Go.Proofs.Ytcllofffbmbmlaa
open Go.RowKit Go.Shelf
attribute [local go_sem] Oper.semAt_some

theorem free_unique {L : List Ent} {pid : Int} {k j : Nat} (h1 : ent L pid k = none) (h2 : ∀ i : Nat, i < k → ent L pid i ≠ none) (h3 : ent L pid j = none) (h4 : ∀ i : Nat, i < j → ent L pid i ≠ none) : k = j := by
  rcases Nat.lt_trichotomy k j with h | h | h
  · exact absurd h1 (h4 k h)
  · exact h
  · exact absurd h3 (h2 j h)
theorem OpenR.ok_of {L L' : List Ent} {pid K T r er : Int} (h : OpenR L pid K T L' r er) (hp : 1 ≤ pid) (hK : 1 ≤ K) (hT : 0 ≤ T) (j : Nat) (hj : j < 8) (h3 : ent L pid j = none) (h4 : ∀ i : Nat, i < j → ent L pid i ≠ none) (hc : cnt L ≠ 32) :
    ∃ b, L' = ⟨pid, j, b, K, T⟩ :: L ∧ r = j ∧ er = 0 ∧ ∀ e ∈ L, e.blk ≠ b := by
  cases h with
  | arg h => omega
  | fds _ _ _ h => exact absurd h3 (h j hj)
  | files k _ _ _ _ _ h => exact absurd h hc
  | ok k b _ _ _ _ h1 h2 _ hb =>
    obtain rfl := free_unique h1 h2 h3 h4
    exact ⟨b, rfl, rfl, rfl, hb⟩
theorem DupR.ok_of {L L' : List Ent} {pid fd r er : Int} {e : Ent} (h : DupR L pid fd L' r er) (hp : 1 ≤ pid) (he : ent L pid fd = some e) (j : Nat) (hj : j < 8) (h3 : ent L pid j = none) (h4 : ∀ i : Nat, i < j → ent L pid i ≠ none) :
    L' = ⟨pid, j, e.blk, e.kind, e.thing⟩ :: L ∧ r = j ∧ er = 0 := by
  cases h with
  | err er h h1 => simp [fnd, Int.not_lt.2 hp, he] at h1
  | fds e' _ h1 h2 => exact absurd h3 (h2 j hj)
  | ok e' k _ h1 _ h2 h5 =>
    obtain rfl := free_unique h2 h5 h3 h4
    rw [he] at h1; cases h1
    exact ⟨rfl, rfl, rfl⟩
theorem CloseR.ok_of {L L' : List Ent} {pid fd K T er : Int} {g : Bool} {e : Ent} (h : CloseR L pid fd L' K T g er) (hp : 1 ≤ pid) (he : ent L pid fd = some e) :
    L' = del L pid fd ∧ e.kind = K ∧ e.thing = T ∧ g = decide (refs (del L pid fd) e.blk = 0) ∧ er = 0 := by
  cases h with
  | err er h h1 => simp [fnd, Int.not_lt.2 hp, he] at h1
  | ok e' _ h1 => rw [he] at h1; cases h1; exact ⟨rfl, rfl, rfl, rfl, rfl⟩

set_option maxHeartbeats 1600000 in
theorem shown_any (w : World) : Calls Try.prog 10 #[] w fun e w' => e = .returned (.bool true) ∧ Same (fun _ => False) w w' := by
  go_enter Try.func10, Try.ntmps10
  go_wp2_with fail
  refine (new_any w).mono ?_
  rintro e w1 ⟨f, m, rfl, hR1, hs1, hm1⟩
  go_wp2_with fail
  refine (open_any hR1 1 1 5 (by simp [cnt])).mono ?_
  rintro e w2 ⟨L2, r, er, rfl, hO, al2, hR2, hs2⟩
  obtain ⟨b, rfl, rfl, rfl, -⟩ := hO.ok_of (by decide) (by decide) (by decide) 0 (by decide) rfl (by omega) (by decide)
  go_wp2_with fail
  refine (dup_any hR2 1 0 (by simp)).mono ?_
  rintro e w3 ⟨L3, r, er, rfl, hO, al3, hR3, hs3⟩
  obtain ⟨rfl, rfl, rfl⟩ := hO.ok_of (by decide) (e := ⟨1, 0, b, 1, 5⟩) (by simp [ent]) 1 (by decide) (by simp [ent]) (by intro i hi; obtain rfl : i = 0 := (by omega); simp [ent])
  go_wp2_with fail
  refine (close_any hR3 1 0 (by simp)).mono ?_
  rintro e w4 ⟨L4, K, T, g, er, rfl, hO, hR4, hs4⟩
  obtain ⟨rfl, rfl, rfl, rfl, rfl⟩ := hO.ok_of (by decide) (e := ⟨1, 0, b, 1, 5⟩) (by simp [ent])
  have e4 : del [⟨1, 1, b, 1, 5⟩, ⟨1, 0, b, 1, 5⟩] 1 0 = [⟨1, 1, b, 1, 5⟩] := by simp [del]
  have r4 : refs [(⟨1, 1, b, 1, 5⟩ : Ent)] b = 1 := by simp [refs]
  simp only [Int.natCast_zero, e4, r4] at hR4 ⊢
  simp only [show decide ((1 : Nat) = 0) = false from rfl]
  go_wp2_with fail
  have hR4' := hR4.same0 (same_alloc (.cells #[.int .i64 1, .int .i64 5] 23))
  refine (close_any hR4' 1 1 (by simp)).mono ?_
  rintro e w5 ⟨L5, K, T, g, er, rfl, hO, hR5, hs5⟩
  obtain ⟨rfl, rfl, rfl, rfl, rfl⟩ := hO.ok_of (by decide) (e := ⟨1, 1, b, 1, 5⟩) (by simp [ent])
  have e5 : del [(⟨1, 1, b, 1, 5⟩ : Ent)] 1 1 = [] := by simp [del]
  simp only [e5] at hR5 ⊢
  simp only [show decide (refs [] b = 0) = true from by simp [refs]]
  go_wp2_with fail
  have hR5' := hR5.same0 (same_alloc (.cells #[.int .i64 1, .int .i64 5] 23))
  refine (get_any hR5' 1 1).mono ?_
  rintro e w6 ⟨rfl, hs6⟩
  simp only [show getV [] 1 1 = (.agg #[.int .i64 0, .int .i64 0], 80) from by simp [getV, ent]]
  obtain ⟨c0, c1, -, -, hlt⟩ := new2 hs6 (by simp)
  go_wp2
  go_ret
  refine ⟨rfl, ?_⟩
  have hz1 := hs1.size
  have t1 : Same (Own w1 m) w1 w5 := own_trans (own_trans (own_trans (own_trans (own_trans hs2 hs3) hs4) (own_of (same_alloc _))) hs5) (own_of (Same.refl _ _))
  have t2 : Same (Own w1 m) w1 w6 := own_trans t1 (own_of ((same_alloc _).trans hs6))
  have t3 : Same (fun _ => False) w w6 := hs1.trans' t2 (fun b hb hbw => by have := hb.1; omega)
  exact t3.alloc _
end Go.Proofs.Ytcllofffbmbmlaa
