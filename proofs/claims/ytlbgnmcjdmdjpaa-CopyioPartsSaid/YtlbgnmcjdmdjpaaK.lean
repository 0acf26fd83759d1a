import Derived.Test.YtlbgnmcjdmdjpaaJ
namespace Go.Proofs.Ytlbgnmcjdmdjpaa
open Go.RowKit Go.Shelf
attribute [local go_sem] Oper.semAt_some

theorem entries_any (w : World) (p : Option Addr) (t : Int) :
    Calls Try.prog 59 #[.pointer p, .int .i64 t] w fun e w' => e = .returned (.func (.func 101) #[] #[.pointer (some ⟨w.heap.size, 0, none⟩), .pointer (some ⟨w.heap.size + 1, 0, none⟩)]) ∧ w' = (w.alloc (.cells #[.pointer p] 24)).alloc (.cells #[.int .i64 t] 3) := by
  go_enter Try.func59, Try.ntmps59
  go_wp2
  go_ret
  exact ⟨rfl, rfl⟩

set_option maxHeartbeats 1600000 in
/-- The iterator over a table's entries: J holds between rounds. -/
theorem entries1 (l bm bt f fb : Nat) (t : Int) (J : Nat → Mm → World → Prop) (Jx : World → Prop)
    (hsm : ∀ i M W W', J i M W → Same (fun _ => False) W W' → J i M W')
    (hc : ∀ i M W, J i M W → MemAt W f fb M ∧ W.cell? ⟨bm, 0, none⟩ = some (.pointer (some ⟨f, 0, none⟩)) ∧ W.cell? ⟨bt, 0, none⟩ = some (.int .i64 t))
    (hno : ∀ i M W, i < 16 → J i M W → (M.get t i).1 = 0 → J (i + 1) M W)
    (hy : ∀ i M W, i < 16 → J i M W → (M.get t i).1 ≠ 0 → YieldAt Fence.wide 0 Try.prog l #[.int .i64 i, .agg #[.int .i64 (M.get t i).1, .int .i64 (M.get t i).2]] W fun e W' =>
      (e = .returned (.bool true) ∧ ∃ M', J (i + 1) M' W') ∨ (e = .returned (.bool false) ∧ Jx W'))
    (w : World) (M0 : Mm) (h0 : J 0 M0 w) :
    Calls Try.prog 101 #[.func (.yield l) #[] #[], .pointer (some ⟨bm, 0, none⟩), .pointer (some ⟨bt, 0, none⟩)] w fun e W => (∃ v, e = .returned v) ∧ ((∃ M, J 16 M W) ∨ Jx W) := by
  refine (callsIn_wide (n := 0)).1 ?_
  refine callsIn_of_wp Try.func101 rfl trivial ?_ rfl
  simp only [Try.ntmps101, List.size_toArray, List.length_cons, List.length_nil, Nat.reduceAdd, Nat.reduceSub, Array.replicate_succ, Array.replicate_zero, List.push_toArray, List.append_toArray, List.nil_append, List.cons_append]
  gi_wp2
  refine wpIn_scope_straight ?_
  gi_wp2
  refine wpIn_label ?_
  gi_wp2
  gi_loopw [6] (fun p wr => ∃ k : Nat, k ≤ 16 ∧ p = .int .i64 k ∧ ∃ M, J k M wr) (fun p _ => 16 - (intOf p).toNat)
  case atStart => exact ⟨0, by omega, rfl, M0, h0⟩
  case round =>
    obtain ⟨k, hk, rfl, M, hJ⟩ := hrel
    by_cases hlt : k < 16
    · obtain ⟨hM, c1, c2⟩ := hc k M wr hJ
      have hgt := get_any hM t k hlt
      obtain ⟨⟨xf, xn⟩, hX⟩ : ∃ x, x = M.get t k := ⟨_, rfl⟩
      rw [← hX] at hgt
      simp only at hgt
      have HGT := Lib.hid hgt
      have HX := Lib.hid hX
      clear hgt hX
      by_cases hz : xf = 0
      · subst hz
        have hJ' := hno k M wr hlt hJ (by rw [← HX.out])
        have HJ := Lib.hid hJ'
        clear hJ'
        gi_wp2_with (gi_at_call 63; refine CallsIn.mono (callsIn_wide.2 HGT.out) ?_; rintro e w' ⟨rfl, hs⟩)
        go_roundw
        case rel => exact ⟨k + 1, by omega, by go_num, M, hsm _ _ _ _ HJ.out (hs.alloc _)⟩
        case measure => simp [intOf]; omega
      · have hzb : (xf == 0) = false := by simpa using hz
        have HZ := Lib.hid hz
        clear hz
        gi_wp2_with fail
        refine CallsIn.mono (callsIn_wide.2 HGT.out) ?_
        rintro e w' ⟨rfl, hs⟩
        have hJ2 := hsm _ _ _ _ hJ (hs.alloc (.cells #[.int .i64 xf, .int .i64 xn] 108))
        have hyk := hy k M _ hlt hJ2 (by rw [← HX.out]; exact HZ.out)
        rw [← HX.out] at hyk
        obtain ⟨fn, tmps, assign, body, hye, hR⟩ := hyk
        gi_wp2
        refine hR.mono ?_
        rintro e W3 (⟨rfl, M', hJ3⟩ | ⟨rfl, hJx3⟩)
        · gi_wp2
          go_roundw
          case rel => exact ⟨k + 1, by omega, by go_num, M', hJ3⟩
          case measure => simp [intOf]; omega
        · gi_wp2
          simp only [Exit.noGoto]
          exact bodyPost_ret (results_none rfl _ _ _) rfl ⟨⟨_, rfl⟩, .inr hJx3⟩
    · obtain rfl : k = 16 := by omega
      gi_wp2
      simp only [Exit.noGoto]
      exact bodyPost_end (results_none rfl _ _ _) rfl ⟨⟨_, rfl⟩, .inl ⟨M, hJ⟩⟩
end Go.Proofs.Ytlbgnmcjdmdjpaa
