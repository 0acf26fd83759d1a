/- proc: Become. Conditions: the table's form. -/
import Derived.Test.YtaeabeofpkfadaaS
import Derived.Test.YtaeabeofpkfadaaT
import Derived.Test.YtaeabeofpkfadaaE
namespace Go.Proofs.Ytaeabeofpkfadaa
open Go.RowKit Go.Shelf
attribute [local go_sem] Oper.semAt_some

theorem becE_err {L : List Pr} {pid u g er : Int} (hr : becE L pid u g = (er, none)) : (er == 0) = false := by
  unfold becE at hr
  split at hr
  · cases hr; rfl
  · split at hr
    · cases hr; rfl
    · split at hr
      · cases hr; rfl
      · simp at hr
theorem become_nil (w : World) (pid u g : Int) : Calls Try.prog 19 #[.pointer none, .int .i64 pid, .agg #[.int .i64 u, .int .i64 g]] w fun e w' => e = .returned (.int .i64 1) ∧ Same (fun _ => False) w w' := by
  go_enter Try.func19, Try.ntmps19
  go_wp2_with fail
  refine (find_nil _ pid).mono ?_
  rintro e w1 ⟨rfl, rfl⟩
  go_wp2
  go_ret
  exact ⟨rfl, same_alloc _⟩
theorem okU_not {u g : Int} (h : u < 0 ∨ 65535 < u ∨ g < 0 ∨ 65535 < g) : (okU u && okU g) = false := by
  cases hb : okU u && okU g
  · rfl
  · simp only [okU, Bool.and_eq_true, decide_eq_true_eq] at hb; omega
theorem okU_yes {u g : Int} (h : ¬ (u < 0 ∨ 65535 < u ∨ g < 0 ∨ 65535 < g)) : (okU u && okU g) = true := by
  simp only [okU, Bool.and_eq_true, decide_eq_true_eq]; omega
set_option maxHeartbeats 1600000 in
theorem become_bad {w : World} {t m : Nat} {L : List Pr} {last : Int} (h : TabAt w t m L last) (pid u g : Int) {er : Int} (hr : becE L pid u g = (er, none)) :
    Calls Try.prog 19 #[.pointer (some ⟨t, 0, none⟩), .int .i64 pid, .agg #[.int .i64 u, .int .i64 g]] w fun e w' => e = .returned (.int .i64 er) ∧ Same (fun _ => False) w w' := by
  have hsA : Same (fun _ => False) w (w.alloc (.cells #[.int .i64 u, .int .i64 g] 32)) := same_alloc _
  have h1 := h.same0 hsA
  have hfa := find_any h1 pid
  unfold becE at hr
  cases hg : lget L pid with
  | none =>
    rw [hg] at hr hfa
    simp only [pv, fe, Prod.mk.injEq, and_true] at hfa hr
    subst hr
    clear h h1 hg
    go_enter Try.func19, Try.ntmps19
    go_wp2_with fail
    refine hfa.mono ?_
    rintro e w1 ⟨rfl, rfl⟩
    go_wp2
    go_ret
    exact ⟨rfl, hsA⟩
  | some p =>
    rw [hg] at hr hfa
    simp only [pv, fe] at hfa hr
    have hp := h1.pr p (lget_some hg).1
    have hcr := credRight_any (w.alloc (.cells #[.int .i64 u, .int .i64 g] 32)) u g
    have hlt := (h.pr p (lget_some hg).1).lt
    by_cases h2 : u < 0 ∨ 65535 < u ∨ g < 0 ∨ 65535 < g
    · rw [if_pos h2] at hr
      simp only [Prod.mk.injEq, and_true] at hr
      subst hr
      rw [okU_not h2] at hcr
      clear h h1 hg hp h2
      go_enter Try.func19, Try.ntmps19
      go_wp2_with fail
      refine hfa.mono ?_
      rintro e w1 ⟨rfl, rfl⟩
      go_wp2_with fail
      refine hcr.mono ?_
      rintro e w1 ⟨rfl, hs1⟩
      go_wp2
      go_ret
      exact ⟨rfl, hsA.trans hs1⟩
    · rw [if_neg h2] at hr
      rw [okU_yes h2] at hcr
      by_cases h3 : p.uid ≠ 0 ∧ (p.uid ≠ u ∨ p.gid ≠ g)
      · rw [if_pos h3] at hr
        simp only [Prod.mk.injEq, and_true] at hr
        subst hr
        obtain ⟨h3a, h3b⟩ := h3
        have HP := Lib.hid hp
        have hb0 : (p.uid != 0) = true := by simpa using h3a
        have fin : ∀ w2, Same (fun _ => False) (w.alloc (.cells #[.int .i64 u, .int .i64 g] 32)) w2 → ∀ n, Same (fun _ => False) w (w2.drewN n) := fun w2 h n => (hsA.trans h).drewN n
        clear h h1 hg hp h2 h3a
        by_cases hu : p.uid = u
        · have hg2 : ¬ p.gid = g := by omega
          rw [hu] at hb0
          have HU := Lib.hid hu
          clear h3b hu
          go_enter Try.func19, Try.ntmps19
          go_wp2_with fail
          refine hfa.mono ?_
          rintro e w1 ⟨rfl, rfl⟩
          go_wp2_with fail
          refine hcr.mono ?_
          rintro e w2 ⟨rfl, hs1⟩
          have hp2 := HP.out.same hs1 (fun h => h)
          have c3 := (hp2 3 _ rfl).1
          have c4 := (hp2 4 _ rfl).1
          have d0 := hs1.cell (a := ⟨w.heap.size, 0, none⟩) (v := .int .i64 u) (by simp [go_sem]) (fun h => h)
          have d1 := hs1.cell (a := ⟨w.heap.size, 1, none⟩) (v := .int .i64 g) (by simp [go_sem]) (fun h => h)
          rw [HU.out] at c3
          clear hp2
          go_wp2
          go_quiet (fail)
          go_wp2
          go_ret
          exact ⟨rfl, fin _ hs1 _⟩
        · clear h3b
          go_enter Try.func19, Try.ntmps19
          go_wp2_with fail
          refine hfa.mono ?_
          rintro e w1 ⟨rfl, rfl⟩
          go_wp2_with fail
          refine hcr.mono ?_
          rintro e w2 ⟨rfl, hs1⟩
          have hp2 := HP.out.same hs1 (fun h => h)
          have c3 := (hp2 3 _ rfl).1
          have c4 := (hp2 4 _ rfl).1
          have d0 := hs1.cell (a := ⟨w.heap.size, 0, none⟩) (v := .int .i64 u) (by simp [go_sem]) (fun h => h)
          have d1 := hs1.cell (a := ⟨w.heap.size, 1, none⟩) (v := .int .i64 g) (by simp [go_sem]) (fun h => h)
          clear hp2
          go_wp2
          go_quiet (fail)
          go_wp2
          go_ret
          exact ⟨rfl, fin _ hs1 _⟩
      · rw [if_neg h3] at hr
        simp at hr
set_option maxHeartbeats 1600000 in
theorem become_ok {w : World} {t m : Nat} {L : List Pr} {last : Int} (h : TabAt w t m L last) (pid u g : Int) {er : Int} {p' : Pr} (hr : becE L pid u g = (er, some p')) :
    Calls Try.prog 19 #[.pointer (some ⟨t, 0, none⟩), .int .i64 pid, .agg #[.int .i64 u, .int .i64 g]] w fun e w' => e = .returned (.int .i64 0) ∧ TabAt w' t m (put L p') last ∧ Same (· = p'.b) w w' := by
  have hsA : Same (fun _ => False) w (w.alloc (.cells #[.int .i64 u, .int .i64 g] 32)) := same_alloc _
  have h1 := h.same0 hsA
  have hfa := find_any h1 pid
  unfold becE at hr
  cases hg : lget L pid with
  | none => rw [hg] at hr; simp at hr
  | some p =>
    rw [hg] at hr hfa
    simp only [pv, fe] at hfa hr
    have hpm := (lget_some hg).1
    have hp := h1.pr p hpm
    have hcr := credRight_any (w.alloc (.cells #[.int .i64 u, .int .i64 g] 32)) u g
    have hlt := (h.pr p hpm).lt
    by_cases h2 : u < 0 ∨ 65535 < u ∨ g < 0 ∨ 65535 < g
    · rw [if_pos h2] at hr; simp at hr
    rw [if_neg h2] at hr
    rw [okU_yes h2] at hcr
    by_cases h3 : p.uid ≠ 0 ∧ (p.uid ≠ u ∨ p.gid ≠ g)
    · rw [if_pos h3] at hr; simp at hr
    rw [if_neg h3] at hr
    simp only [Prod.mk.injEq, Option.some.injEq] at hr
    obtain ⟨-, rfl⟩ := hr
    have HP := Lib.hid hp
    have fin : ∀ w2, Same (fun _ => False) (w.alloc (.cells #[.int .i64 u, .int .i64 g] 32)) w2 → ∀ n, PrAt w2 p →
        TabAt (((w2.setCell ⟨p.b, 3, none⟩ (.int .i64 u)).setCell ⟨p.b, 4, none⟩ (.int .i64 g)).drewN n) t m (put L { p with uid := u, gid := g }) last ∧ Same (· = p.b) w (((w2.setCell ⟨p.b, 3, none⟩ (.int .i64 u)).setCell ⟨p.b, 4, none⟩ (.int .i64 g)).drewN n) := by
      intro w2 hs n hp2
      have q1 : PrAt (w2.setCell ⟨p.b, 3, none⟩ (.int .i64 u)) { p with uid := u } := hp2.set (p' := { p with uid := u }) (i := 3) (v := .int .i64 u) rfl (by omega) rfl
      have q2 : PrAt ((w2.setCell ⟨p.b, 3, none⟩ (.int .i64 u)).setCell ⟨p.b, 4, none⟩ (.int .i64 g)) { p with uid := u, gid := g } := PrAt.set (p := { p with uid := u }) (p' := { p with uid := u, gid := g }) (i := 4) (v := .int .i64 g) q1 rfl (by omega) rfl
      have sS : Same (· = p.b) w2 (((w2.setCell ⟨p.b, 3, none⟩ (.int .i64 u)).setCell ⟨p.b, 4, none⟩ (.int .i64 g)).drewN n) := (((Same.refl (· = p.b) _).setCell _ (.inr rfl)).setCell _ (.inr rfl)).drewN n
      exact ⟨(h1.same0 hs).put hpm rfl rfl sS q2, ((hsA.trans hs).mono (fun _ _ h => h.elim)).trans sS⟩
    by_cases h0 : p.uid = 0
    · have H0 := Lib.hid h0
      clear h h1 hg hp h2 h3 h0
      go_enter Try.func19, Try.ntmps19
      go_wp2_with fail
      refine hfa.mono ?_
      rintro e w1 ⟨rfl, rfl⟩
      go_wp2_with fail
      refine hcr.mono ?_
      rintro e w2 ⟨rfl, hs1⟩
      have hp2 := HP.out.same hs1 (fun h => h)
      have c3 := (hp2 3 _ rfl).1
      have c4 := (hp2 4 _ rfl).1
      have z3 := (hp2 3 _ rfl).2
      have z4 := (hp2 4 _ rfl).2
      have d0 := hs1.cell (a := ⟨w.heap.size, 0, none⟩) (v := .int .i64 u) (by simp [go_sem]) (fun h => h)
      have d1 := hs1.cell (a := ⟨w.heap.size, 1, none⟩) (v := .int .i64 g) (by simp [go_sem]) (fun h => h)
      rw [H0.out] at c3
      have HP2 := Lib.hid hp2
      clear hp2
      go_wp2
      go_quiet (fail)
      rename_i nq
      go_wp2
      go_ret
      exact ⟨rfl, fin _ hs1 _ HP2.out⟩
    · have hu : p.uid = u := by omega
      have hv : p.gid = g := by omega
      have hb0 : (u != 0) = true := by simpa [hu] using h0
      have HU := Lib.hid hu
      have HV := Lib.hid hv
      clear h h1 hg hp h2 h3 h0 hu hv
      go_enter Try.func19, Try.ntmps19
      go_wp2_with fail
      refine hfa.mono ?_
      rintro e w1 ⟨rfl, rfl⟩
      go_wp2_with fail
      refine hcr.mono ?_
      rintro e w2 ⟨rfl, hs1⟩
      have hp2 := HP.out.same hs1 (fun h => h)
      have c3 := (hp2 3 _ rfl).1
      have c4 := (hp2 4 _ rfl).1
      have z3 := (hp2 3 _ rfl).2
      have z4 := (hp2 4 _ rfl).2
      have d0 := hs1.cell (a := ⟨w.heap.size, 0, none⟩) (v := .int .i64 u) (by simp [go_sem]) (fun h => h)
      have d1 := hs1.cell (a := ⟨w.heap.size, 1, none⟩) (v := .int .i64 g) (by simp [go_sem]) (fun h => h)
      rw [HU.out] at c3
      rw [HV.out] at c4
      have HP2 := Lib.hid hp2
      clear hp2
      go_wp2
      go_quiet (fail)
      rename_i nq
      go_wp2
      go_ret
      exact ⟨rfl, fin _ hs1 _ HP2.out⟩
end Go.Proofs.Ytaeabeofpkfadaa
