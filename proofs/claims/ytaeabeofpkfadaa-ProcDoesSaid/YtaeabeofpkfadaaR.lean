/- The statements' own 'shown': a child is reaped. No condition. -/
import Derived.Test.YtaeabeofpkfadaaQ
namespace Go.Proofs.Ytaeabeofpkfadaa
open Go.RowKit Go.Shelf
attribute [local go_sem] Oper.semAt_some

set_option maxHeartbeats 3200000 in
set_option maxRecDepth 16384 in
theorem shown_any (w : World) : Calls Try.prog 10 #[] w fun e w' => e = .returned (.bool true) ∧ Same (fun _ => False) w w' := by
  go_enter Try.func10, Try.ntmps10
  go_wp2_with fail
  refine (new_any _).mono ?_
  rintro e w1 ⟨t, m, b, rfl, hT, ht, hm, hb, hs1⟩
  go_wp2_with fail
  refine (fork_ok hT 1 (p := one b) (er := 0) rfl (by simp) (by omega) (by omega) (fun q hq => by obtain rfl := List.mem_singleton.1 hq; exact Int.le_refl _)).mono ?_
  rintro e w2 ⟨b2, rfl, hb2, hT2, hs2⟩
  have hsA : Same (fun _ => False) w w2 := hs1.trans' hs2 (fun k e hk => by omega)
  obtain ⟨K, hK⟩ : ∃ K, K = kid 1 1 (one b) b2 := ⟨_, rfl⟩
  have hszb : w.heap.size ≤ b2 := by have := hs1.size; omega
  have hbd2 : Bd ([one b] ++ [kid 1 1 (one b) b2]) := ⟨by simp, fun q hq => by
    simp only [List.cons_append, List.nil_append, List.mem_cons, List.not_mem_nil, or_false] at hq
    rcases hq with rfl | rfl
    · exact ⟨Int.le_refl _, by show (1 : Int) ≤ 30000; decide⟩
    · exact ⟨by show (1 : Int) ≤ 1 + 1; decide, by show (1 + 1 : Int) ≤ 30000; decide⟩⟩
  clear hs1 hs2 hT hK
  go_wp2_with fail
  refine (wait_any hT2 hbd2 1 (p := one b) (er := 0) rfl).mono ?_
  rintro e w3 (⟨-, rfl, hs3⟩ | ⟨z, hz, -⟩)
  case inr => exact absurd hz (by simp [zom, one, kid])
  have hw3 : wr ([one b] ++ [kid 1 1 (one b) b2]) 1 ([one b] ++ [kid 1 1 (one b) b2]).length = 63 := rfl
  rw [hw3]
  have hT3 := hT2.same0 hs3
  have hsB := hsA.trans hs3
  clear hT2 hs3 hsA
  go_wp2_with fail
  refine (exit_ok hT3 hbd2 2 7 (p := kid 1 1 (one b) b2) (er := 0) rfl (by decide) (by decide) (by decide)).mono ?_
  rintro e w4 ⟨rfl, hT4, hs4⟩
  have hl4 : (put ([one b] ++ [kid 1 1 (one b) b2]) { kid 1 1 (one b) b2 with st := 3, stat := 7 }).map (adopt 2) = [one b, { kid 1 1 (one b) b2 with st := 3, stat := 7 }] := rfl
  rw [hl4] at hT4
  have hbd4 : Bd [one b, { kid 1 1 (one b) b2 with st := 3, stat := 7 }] := ⟨by simp, fun q hq => by
    simp only [List.mem_cons, List.not_mem_nil, or_false] at hq
    rcases hq with rfl | rfl
    · exact ⟨Int.le_refl _, by show (1 : Int) ≤ 30000; decide⟩
    · exact ⟨by show (1 : Int) ≤ 1 + 1; decide, by show (1 + 1 : Int) ≤ 30000; decide⟩⟩
  have hsC : Same (fun _ => False) w w4 := hsB.trans' hs4 (fun k e hk => by
    rcases e with e | e | ⟨q, hq, e⟩
    · omega
    · omega
    · simp only [List.cons_append, List.nil_append, List.mem_cons, List.not_mem_nil, or_false] at hq
      rcases hq with rfl | rfl
      · have : b = k := e
        omega
      · have : b2 = k := e
        omega)
  clear hT3 hs4 hsB hw3 hbd2 hl4
  go_wp2_with fail
  refine (wait_any hT4 hbd4 1 (p := one b) (er := 0) rfl).mono ?_
  rintro e w5 (⟨hn, -⟩ | ⟨z, hz, rfl, hT5, hs5⟩)
  · exact absurd hn (by simp [zom, one, kid])
  have hz2 : z = { kid 1 1 (one b) b2 with st := 3, stat := 7 } := by
    have : [one b, { kid 1 1 (one b) b2 with st := 3, stat := 7 }].find? (zom 1) = some { kid 1 1 (one b) b2 with st := 3, stat := 7 } := rfl
    rw [this] at hz
    exact (Option.some.inj hz).symm
  subst hz2
  have hl5 : [one b, { kid 1 1 (one b) b2 with st := 3, stat := 7 }].filter (fun q => q.pid ≠ ({ kid 1 1 (one b) b2 with st := 3, stat := 7 } : Pr).pid) = [one b] := rfl
  rw [hl5] at hT5
  have hsD : Same (fun _ => False) w w5 := hsC.trans' hs5 (fun k e hk => by omega)
  have hbd5 : Bd [one b] := ⟨by simp, fun q hq => by obtain rfl := List.mem_singleton.1 hq; exact ⟨Int.le_refl _, by show (1 : Int) ≤ 30000; decide⟩⟩
  clear hT4 hs5 hsC hbd4 hl5 hz
  show _
  go_wp2_with fail
  refine (wait_any hT5 hbd5 1 (p := one b) (er := 0) rfl).mono ?_
  rintro e w6 (⟨-, rfl, hs6⟩ | ⟨z, hz, -⟩)
  case inr => exact absurd hz (by simp [zom, one])
  rw [show wr [one b] 1 [one b].length = 62 from rfl]
  have hsE := hsD.trans hs6
  clear hT5 hs6 hsD hbd5
  go_wp2
  all_goals go_ret
  all_goals exact ⟨rfl, hsE⟩
end Go.Proofs.Ytaeabeofpkfadaa
