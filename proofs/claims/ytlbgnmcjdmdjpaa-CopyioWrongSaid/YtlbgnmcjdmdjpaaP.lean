import Derived.Test.YtlbgnmcjdmdjpaaO
namespace Go.Proofs.Ytlbgnmcjdmdjpaa
open Go.RowKit Go.Shelf
attribute [local go_sem] Oper.semAt_some

def mm9 : Mm := ⟨9, fun _ => 0, fun _ _ => 0⟩
theorem mm9_map : ((mm9.alloc 0).map 0 17 5 3).2 = 0 := by decide +kernel
theorem mm9_walk : ((mm9.alloc 0).map 0 17 5 3).1.walk 0 17 = (5, 3, 0) := by decide +kernel
theorem mm9_walk2 : ((mm9.alloc 0).map 0 17 5 3).1.walk 0 16 = (0, 0, 30) := by decide +kernel
theorem mm9_left : nfree ((mm9.alloc 0).map 0 17 5 3).1.R ((mm9.alloc 0).map 0 17 5 3).1.n = 7 := by decide +kernel

set_option maxHeartbeats 1600000 in
theorem shown2 (w : World) : Calls Try.prog 19 #[] w fun e w' => e = .returned (.bool true) ∧ Same (fun _ => False) w w' := by
  have h1 := mm9_map
  have h2 := mm9_walk
  have h3 := mm9_walk2
  have h4 := mm9_left
  obtain ⟨M2, hM2⟩ : ∃ M2, M2 = ((mm9.alloc 0).map 0 17 5 3) := ⟨_, rfl⟩
  rw [← hM2] at h1 h2 h3 h4
  have HM2 := Lib.hid hM2
  clear hM2
  go_enter Try.func19, Try.ntmps19
  go_wp2_with fail
  refine (new_any _ 9 (by omega) (by omega)).mono ?_
  rintro e w1 ⟨f, fb, rfl, hf, hfb, hM, hs1⟩
  go_wp2_with fail
  refine (root_any hM).mono ?_
  rintro e w2 (⟨hall, -, -, -⟩ | ⟨k, hk, hz, hbel, rfl, hMA, hs2⟩)
  · have := hall 0 (by simp)
    simp at this
  · obtain rfl : k = 0 := by
      rcases Nat.eq_zero_or_pos k with h | h
      · exact h
      · have := hbel 0 h; simp at this
    clear hbel hz hk
    go_wp2_with fail
    refine (map_any hMA 0 17 5 3 (by constructor <;> decide)).mono ?_
    rintro e w3 ⟨rfl, hM3, hs3⟩
    have e1 : (Mm.map (Mm.alloc ⟨9, fun _ => 0, fun _ _ => 0⟩ 0) 0 17 5 3) = M2 := HM2.out.symm
    rw [e1] at hM3 ⊢
    rw [h1]
    go_wp2_with fail
    refine (walk_any hM3 0 17 (by constructor <;> decide)).mono ?_
    rintro e w4 ⟨rfl, hs4⟩
    rw [h2]
    go_wp2_with fail
    refine (walk_any (hM3.same0 hs4) 0 16 (by constructor <;> decide)).mono ?_
    rintro e w5 ⟨rfl, hs5⟩
    rw [h3]
    go_wp2_with fail
    refine (left_any ((hM3.same0 hs4).same0 hs5)).mono ?_
    rintro e w6 ⟨rfl, hs6⟩
    rw [h4]
    go_wp2
    go_ret
    have hs7 := (hs4.trans hs5).trans hs6
    exact ⟨rfl, ((((hs1.mono (T := (· = fb)) (fun _ _ h => h.elim)).trans hs2).trans hs3).trans (hs7.mono (fun _ _ h => h.elim))).mono (fun k hk h => by omega)⟩
end Go.Proofs.Ytlbgnmcjdmdjpaa
