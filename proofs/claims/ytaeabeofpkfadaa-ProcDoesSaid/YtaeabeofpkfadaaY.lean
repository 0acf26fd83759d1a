/- proc: text; an act by the program alone. Conditions: the table's form. -/
import Derived.Test.YtaeabeofpkfadaaX
namespace Go.Proofs.Ytaeabeofpkfadaa
open Go.RowKit Go.Shelf
attribute [local go_sem] Oper.semAt_some

def txt (c : ByteArray) : ByteArray := c.extract 0 (min c.size 20)
theorem text_any (w : World) (c : ByteArray) : Calls Try.prog 24 #[.string c] w fun e w' => e = .returned (.string (txt c)) ∧ w' = w := by
  unfold txt
  by_cases h : c.size ≤ 20
  · have h1 : min (c.size : Int) 20 = c.size := by omega
    have h2 : min c.size 20 = c.size := by omega
    rw [h2, show c.extract 0 c.size = c by simp]
    go_enter Try.func24, Try.ntmps24
    go_wp2
    go_ret
    exact ⟨rfl, rfl⟩
  · have h1 : min (c.size : Int) 20 = 20 := by omega
    have h2 : min c.size 20 = 20 := by omega
    have h3 : (20 : Int) ≤ c.size := by omega
    have h4 : 20 ≤ c.size := by omega
    rw [h2]
    go_enter Try.func24, Try.ntmps24
    go_wp2
    go_ret
    exact ⟨rfl, rfl⟩
/-- An act's cells. -/
def Do.cut (x : Do) : Do := { x with ch := txt x.ch }
theorem wrap8 (d : Int) : (IntKind.u64.wrap d).tmod 8 = d % 8 := by
  have : IntKind.u64.wrap d = d % 18446744073709551616 := by simp [IntKind.wrap, IntKind.signed, IntKind.bits]
  rw [this, Int.tmod_eq_emod_of_nonneg (by omega)]
  omega
theorem act_cases (x : Do) : x.d % 8 = 0 ∨ x.d % 8 = 1 ∨ x.d % 8 = 2 ∨ x.d % 8 = 3 ∨ x.d % 8 = 4 ∨ x.d % 8 = 5 ∨ x.d % 8 = 6 ∨ x.d % 8 = 7 := by omega
/-- What 'done' does. -/
def DoneQ (w : World) (t m : Nat) (L : List Pr) (last : Int) (x : Do) (e : Ending) (w' : World) : Prop :=
  ∃ b, e = .returned (.int .i64 (actN L last x)) ∧ w.heap.size ≤ b ∧ TabAt w' t m (actL L last x b) (actLast L last x) ∧ Same (Own t m L) w w'
theorem same_own0 {t m : Nat} {L : List Pr} {w w' : World} (h : Same (fun _ => False) w w') : Same (Own t m L) w w' := h.mono (fun _ _ h => h.elim)
def actCells (x : Do) : Array Value := #[.int .i64 x.d, .int .i64 x.pid, .int .i64 x.stat, .int .i64 x.uid, .int .i64 x.gid, .string x.ch]
set_option maxHeartbeats 3200000 in
set_option maxRecDepth 16384 in
theorem done_any {w : World} {t m : Nat} {L : List Pr} {last : Int} (h : TabI w t m L last) (d pid stat uid gid : Int) (ch : ByteArray) :
    Calls Try.prog 23 #[.pointer (some ⟨t, 0, none⟩), .agg #[.int .i64 d, .int .i64 pid, .int .i64 stat, .int .i64 uid, .int .i64 gid, .string ch]] w (DoneQ w t m L last ⟨d, pid, stat, uid, gid, txt ch⟩) := by
  have hs0 : Same (fun _ => False) w (w.alloc (.cells #[.int .i64 d, .int .i64 pid, .int .i64 stat, .int .i64 uid, .int .i64 gid, .string ch] 47)) := same_alloc _
  have h0 : TabI (w.alloc (.cells #[.int .i64 d, .int .i64 pid, .int .i64 stat, .int .i64 uid, .int .i64 gid, .string ch] 47)) t m L last := ⟨h.tab.same0 hs0, h.inv⟩
  have hne := h.ne
  have H0 := Lib.hid h0
  have HI := Lib.hid h.inv
  have hw8 := wrap8 d
  have S0 := Lib.hid hs0
  have hsz0 := hs0.size
  clear h h0 hs0
  unfold DoneQ
  rcases act_cases ⟨d, pid, stat, uid, gid, txt ch⟩ with hd | hd | hd | hd | hd | hd | hd | hd
  all_goals simp only at hd
  all_goals rw [hd] at hw8
  all_goals have HD := Lib.hid hd
  all_goals clear hd
  all_goals go_enter Try.func23, Try.ntmps23
  · go_wp2_with fail
    refine (fork_any H0.out pid).mono ?_
    rintro e w1 ⟨b, rfl, hb, hT, hs⟩
    have HT := Lib.hid hT
    clear hT
    go_wp2
    go_ret
    exact ⟨b, by simp only [actN, HD.out]; rfl, by omega, by simp only [actL, actLast, HD.out]; exact HT.out, (same_own0 S0.out).trans hs⟩
  · go_wp2_with fail
    refine (fork_any H0.out pid).mono ?_
    rintro e w1 ⟨b, rfl, hb, hT, hs⟩
    have HT := Lib.hid hT
    clear hT
    go_wp2
    go_ret
    exact ⟨b, by simp only [actN, HD.out]; rfl, by omega, by simp only [actL, actLast, HD.out]; exact HT.out, (same_own0 S0.out).trans hs⟩
  · go_wp2_with fail
    refine (become_any H0.out pid uid gid).mono ?_
    rintro e w1 ⟨rfl, hT, hs⟩
    have HT := Lib.hid hT
    clear hT
    go_wp2
    go_ret
    exact ⟨w.heap.size, by simp only [actN, HD.out]; rfl, Nat.le_refl _, by simp only [actL, actLast, HD.out]; exact HT.out, (same_own0 S0.out).trans hs⟩
  · go_wp2_with fail
    refine (exit_any H0.out pid stat).mono ?_
    rintro e w1 ⟨rfl, hT, hs⟩
    have HT := Lib.hid hT
    clear hT
    go_wp2
    go_ret
    exact ⟨w.heap.size, by simp only [actN, HD.out]; rfl, Nat.le_refl _, by simp only [actL, actLast, HD.out]; exact HT.out, (same_own0 S0.out).trans hs⟩
  · go_wp2_with fail
    refine (wait_u H0.out pid).mono ?_
    rintro e w1 ⟨rfl, hT, hs⟩
    have HT := Lib.hid hT
    clear hT
    go_wp2
    go_ret
    exact ⟨w.heap.size, by simp only [actN, HD.out]; rfl, Nat.le_refl _, by simp only [actL, actLast, HD.out]; exact HT.out, (same_own0 S0.out).trans hs⟩
  · go_wp2_with fail
    refine (kill_any H0.out pid).mono ?_
    rintro e w1 ⟨rfl, hT, hs⟩
    have HT := Lib.hid hT
    clear hT
    go_wp2
    go_ret
    exact ⟨w.heap.size, by simp only [actN, HD.out]; rfl, Nat.le_refl _, by simp only [actL, actLast, HD.out]; exact HT.out, (same_own0 S0.out).trans hs⟩
  · obtain ⟨W, hW⟩ : ∃ W, W = w.alloc (.cells #[.int .i64 d, .int .i64 pid, .int .i64 stat, .int .i64 uid, .int .i64 gid, .string ch] 47) := ⟨_, rfl⟩
    have k1 : W.cell? ⟨w.heap.size, 1, none⟩ = some (.int .i64 pid) := by rw [hW]; simp
    have k5 : W.cell? ⟨w.heap.size, 5, none⟩ = some (.string ch) := by rw [hW]; simp
    go_wp2_with fail
    rw [← hW]
    rw [← hW] at H0 S0
    clear hW
    refine wp_region_still_tail 6 (by kernel_rfl) (by kernel_rfl) ?_
    simp only [List.take_succ_cons, List.take_zero, List.drop_succ_cons, List.drop_zero]
    still_step
    still_step
    still_step
    still_step
    still_step
    still_call (text_any _ ch)
    refine wpStill_nil ?_
    go_wp2_with fail
    refine (sleep_any (w := W.drew) ⟨H0.out.tab.same0 (Same.refl _ W).drew, H0.out.inv⟩ pid (txt ch)).mono ?_
    rintro e w1 ⟨rfl, hT, hs⟩
    have HT := Lib.hid hT
    clear hT
    go_wp2
    go_ret
    exact ⟨w.heap.size, by simp only [actN, HD.out]; rfl, Nat.le_refl _, by simp only [actL, actLast, HD.out]; exact HT.out, (same_own0 (S0.out.drew)).trans hs⟩
  · go_wp2_with fail
    refine (text_any _ ch).mono ?_
    rintro e w1 ⟨rfl, rfl⟩
    go_wp2_with fail
    refine (wake_any H0.out.tab HI.out.bd hne (txt ch)).mono ?_
    rintro e w1 ⟨v, rfl, -, hT, hs⟩
    have HT := Lib.hid hT
    clear hT
    go_wp2
    go_ret
    exact ⟨w.heap.size, by simp only [actN, HD.out]; rfl, Nat.le_refl _, by simp only [actL, actLast, HD.out]; exact HT.out, (same_own0 S0.out).trans hs⟩
end Go.Proofs.Ytaeabeofpkfadaa
