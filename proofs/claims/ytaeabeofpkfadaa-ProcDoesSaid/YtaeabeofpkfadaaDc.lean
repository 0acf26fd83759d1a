/- proc: an act on both tables, the two calls in whatever order. Conditions: their form. -/
import Derived.Test.YtaeabeofpkfadaaDb
namespace Go.Proofs.Ytaeabeofpkfadaa
open Go.RowKit Go.Shelf
attribute [local go_sem] Oper.semAt_some
attribute [local go_sem] PUpon

theorem actL_irrel {L : List Pr} {last : Int} {x : Do} (h : x.d % 8 ≠ 0 ∧ x.d % 8 ≠ 1) (b b2 : Nat) : actL L last x b = actL L last x b2 := by
  unfold actL
  have hk : (x.d % 8).toNat = x.d % 8 := by omega
  generalize (x.d % 8).toNat = k at hk
  match k, hk with
  | 0, hk => exact absurd hk.symm h.1
  | 1, hk => exact absurd hk.symm h.2
  | 2, _ => rfl
  | 3, _ => rfl
  | 4, _ => rfl
  | 5, _ => rfl
  | 6, _ => rfl
  | _ + 7, _ => rfl
set_option maxHeartbeats 6400000 in
set_option maxRecDepth 16384 in
theorem did_become {s : Nat} {w : World} {t m r : Nat} {L : List Pr} {last : Int} (h : Both s w t m r L last) (d pid stat uid gid : Int) (ch : ByteArray) (hd : d % 8 = 2) :
    Calls Try.prog 18 #[.pointer (some ⟨t, 0, none⟩), .pointer (some ⟨r, 0, none⟩), .agg #[.int .i64 d, .int .i64 pid, .int .i64 stat, .int .i64 uid, .int .i64 gid, .string ch]] w (DidQ s w t m r L last ⟨d, pid, stat, uid, gid, txt ch⟩) := by
  have hs0 : Same (fun _ => False) w (w.alloc (.cells #[.int .i64 d, .int .i64 pid, .int .i64 stat, .int .i64 uid, .int .i64 gid, .string ch] 47)) := same_alloc _
  obtain ⟨g, cap, hR, hap⟩ := h.ref
  have hw8 := wrap8 d
  rw [hd] at hw8
  obtain ⟨L', hL'⟩ : ∃ L', L' = actL L last ⟨d, pid, stat, uid, gid, txt ch⟩ w.heap.size := ⟨_, rfl⟩
  have hl' : last = actLast L last ⟨d, pid, stat, uid, gid, txt ch⟩ := by simp only [actLast, hd]; rfl
  have HAP := Lib.hid (show Apart2 w t m r g L L' from ⟨fun k hk => ⟨own_lt h.tab.tab hk, hap k hk⟩, fun k hk => by
    rw [hL', actL_irrel (by simp only; omega) w.heap.size t] at hk
    rcases own_actL hk with e | e
    · exact e
    · exact .inl e, hR.lt.1, hR.lt.2.1⟩)
  have hL2 : L' = putO L (becE L pid uid gid).2 := by rw [hL']; simp only [actL, hd]; rfl
  have hI := h.tab.inv
  have hst := h.st
  have C1 := Lib.hid (fun W (hT : TabAt W t m L last) => (become_any ⟨hT, hI⟩ pid uid gid))
  have C2 := Lib.hid (fun W gg cc (hT : RAt s W r gg cc L last) => (rbecome_any hT hI pid uid gid))
  rw [← hL2] at C1 C2
  have D0 := Lib.hid (show Two s w t m r g L L' last ⟨d, pid, stat, uid, gid, ch⟩ false false (w.alloc (.cells #[.int .i64 d, .int .i64 pid, .int .i64 stat, .int .i64 uid, .int .i64 gid, .string ch] 47)).drew from
    ⟨(h.tab.tab.same0 hs0).same0 (Same.refl _ _).drew, ⟨g, cap, (hR.same0 hs0).same0 (Same.refl _ _).drew, .inl rfl⟩, by simp, by simp, by simp, by simp, by simp, (hs0.mono (fun _ _ h => h.elim)).drew⟩)
  have HB := Lib.hid (fun (w6 : World) (hD : Two s w t m r g L L' last ⟨d, pid, stat, uid, gid, ch⟩ true true w6) => two_both (x := ⟨d, pid, stat, uid, gid, txt ch⟩) HAP.out hI hst hR.lt.2.2 hL' hl' hD)
  clear h hR hap hI hst hL' hl' hL2 hs0
  unfold DidQ
  go_enter Try.func18, Try.ntmps18
  go_wp2_with fail
  refine wp_region_two (Two s w t m r g L L' last ⟨d, pid, stat, uid, gid, ch⟩) 5 11 (by kernel_rfl) (by kernel_rfl) (by decide) (by decide) (by decide) (by decide) (by decide) D0.out ?_
  iterate 5 (
    refine wpTwo_stepK (fun K hK => ⟨rfl, ?_, ?_, ?_⟩)
    rotate_left
    · refine twoAt_other rfl rfl (fun b b' w' hD => ?_)
      have h1 := hD.c1
      have h2 := hD.c2
      have h3 := hD.c3
      have h4 := hD.c4
      have h5 := hD.c5
      go_simp
      exact rfl
    go_simp
    refine hK _ ?_
    clear hK K)
  refine wpTwo_stepK (fun K hK => ⟨rfl, ?_, ?_, ?_⟩)
  rotate_left
  · refine twoAt_one (fun b w' hD => ?_)
    go_simp
    exact two_one HAP.out C1.out hD
  go_simp
  refine hK _ ?_
  clear hK K
  iterate 5 (
    refine wpTwo_stepK (fun K hK => ⟨rfl, ?_, ?_, ?_⟩)
    rotate_left
    · refine twoAt_other rfl rfl (fun b b' w' hD => ?_)
      have h1 := hD.c1
      have h2 := hD.c2
      have h3 := hD.c3
      have h4 := hD.c4
      have h5 := hD.c5
      go_simp
      exact rfl
    go_simp
    refine hK _ ?_
    clear hK K)
  refine wpTwo_stepK (fun K hK => ⟨rfl, ?_, ?_, ?_⟩)
  rotate_left
  · refine twoAt_two rfl (fun b w' hD => ?_)
    go_simp
    exact two_two HAP.out C2.out hD
  go_simp
  refine hK _ ?_
  clear hK K
  iterate 2 (
    refine wpTwo_stepK (fun K hK => ⟨rfl, ?_, ?_, ?_⟩)
    rotate_left
    · refine twoAt_other rfl rfl (fun b b' w' hD => ?_)
      have h1 := hD.c1
      have h2 := hD.c2
      have h3 := hD.c3
      have h4 := hD.c4
      have h5 := hD.c5
      go_simp
      exact rfl
    go_simp
    refine hK _ ?_
    clear hK K)
  intro w6 hD
  have HBB := Lib.hid (HB.out w6 hD)
  clear hD HB D0 C1 C2 HAP
  go_wp2
  go_ret
  exact ⟨_, rfl, Nat.le_refl _, HBB.out.1, HBB.out.2⟩
set_option maxHeartbeats 6400000 in
set_option maxRecDepth 16384 in
theorem did_exit {s : Nat} {w : World} {t m r : Nat} {L : List Pr} {last : Int} (h : Both s w t m r L last) (d pid stat uid gid : Int) (ch : ByteArray) (hd : d % 8 = 3) :
    Calls Try.prog 18 #[.pointer (some ⟨t, 0, none⟩), .pointer (some ⟨r, 0, none⟩), .agg #[.int .i64 d, .int .i64 pid, .int .i64 stat, .int .i64 uid, .int .i64 gid, .string ch]] w (DidQ s w t m r L last ⟨d, pid, stat, uid, gid, txt ch⟩) := by
  have hs0 : Same (fun _ => False) w (w.alloc (.cells #[.int .i64 d, .int .i64 pid, .int .i64 stat, .int .i64 uid, .int .i64 gid, .string ch] 47)) := same_alloc _
  obtain ⟨g, cap, hR, hap⟩ := h.ref
  have hw8 := wrap8 d
  rw [hd] at hw8
  obtain ⟨L', hL'⟩ : ∃ L', L' = actL L last ⟨d, pid, stat, uid, gid, txt ch⟩ w.heap.size := ⟨_, rfl⟩
  have hl' : last = actLast L last ⟨d, pid, stat, uid, gid, txt ch⟩ := by simp only [actLast, hd]; rfl
  have HAP := Lib.hid (show Apart2 w t m r g L L' from ⟨fun k hk => ⟨own_lt h.tab.tab hk, hap k hk⟩, fun k hk => by
    rw [hL', actL_irrel (by simp only; omega) w.heap.size t] at hk
    rcases own_actL hk with e | e
    · exact e
    · exact .inl e, hR.lt.1, hR.lt.2.1⟩)
  have hL2 : L' = exL L pid stat := by rw [hL']; simp only [actL, hd]; rfl
  have hI := h.tab.inv
  have hst := h.st
  have C1 := Lib.hid (fun W (hT : TabAt W t m L last) => (exit_any ⟨hT, hI⟩ pid stat))
  have C2 := Lib.hid (fun W gg cc (hT : RAt s W r gg cc L last) => (rexit_any hT hI pid stat))
  rw [← hL2] at C1 C2
  have D0 := Lib.hid (show Two s w t m r g L L' last ⟨d, pid, stat, uid, gid, ch⟩ false false (w.alloc (.cells #[.int .i64 d, .int .i64 pid, .int .i64 stat, .int .i64 uid, .int .i64 gid, .string ch] 47)).drew from
    ⟨(h.tab.tab.same0 hs0).same0 (Same.refl _ _).drew, ⟨g, cap, (hR.same0 hs0).same0 (Same.refl _ _).drew, .inl rfl⟩, by simp, by simp, by simp, by simp, by simp, (hs0.mono (fun _ _ h => h.elim)).drew⟩)
  have HB := Lib.hid (fun (w6 : World) (hD : Two s w t m r g L L' last ⟨d, pid, stat, uid, gid, ch⟩ true true w6) => two_both (x := ⟨d, pid, stat, uid, gid, txt ch⟩) HAP.out hI hst hR.lt.2.2 hL' hl' hD)
  clear h hR hap hI hst hL' hl' hL2 hs0
  unfold DidQ
  go_enter Try.func18, Try.ntmps18
  go_wp2_with fail
  refine wp_region_two (Two s w t m r g L L' last ⟨d, pid, stat, uid, gid, ch⟩) 5 11 (by kernel_rfl) (by kernel_rfl) (by decide) (by decide) (by decide) (by decide) (by decide) D0.out ?_
  iterate 5 (
    refine wpTwo_stepK (fun K hK => ⟨rfl, ?_, ?_, ?_⟩)
    rotate_left
    · refine twoAt_other rfl rfl (fun b b' w' hD => ?_)
      have h1 := hD.c1
      have h2 := hD.c2
      have h3 := hD.c3
      have h4 := hD.c4
      have h5 := hD.c5
      go_simp
      exact rfl
    go_simp
    refine hK _ ?_
    clear hK K)
  refine wpTwo_stepK (fun K hK => ⟨rfl, ?_, ?_, ?_⟩)
  rotate_left
  · refine twoAt_one (fun b w' hD => ?_)
    go_simp
    exact two_one HAP.out C1.out hD
  go_simp
  refine hK _ ?_
  clear hK K
  iterate 5 (
    refine wpTwo_stepK (fun K hK => ⟨rfl, ?_, ?_, ?_⟩)
    rotate_left
    · refine twoAt_other rfl rfl (fun b b' w' hD => ?_)
      have h1 := hD.c1
      have h2 := hD.c2
      have h3 := hD.c3
      have h4 := hD.c4
      have h5 := hD.c5
      go_simp
      exact rfl
    go_simp
    refine hK _ ?_
    clear hK K)
  refine wpTwo_stepK (fun K hK => ⟨rfl, ?_, ?_, ?_⟩)
  rotate_left
  · refine twoAt_two rfl (fun b w' hD => ?_)
    go_simp
    exact two_two HAP.out C2.out hD
  go_simp
  refine hK _ ?_
  clear hK K
  iterate 2 (
    refine wpTwo_stepK (fun K hK => ⟨rfl, ?_, ?_, ?_⟩)
    rotate_left
    · refine twoAt_other rfl rfl (fun b b' w' hD => ?_)
      have h1 := hD.c1
      have h2 := hD.c2
      have h3 := hD.c3
      have h4 := hD.c4
      have h5 := hD.c5
      go_simp
      exact rfl
    go_simp
    refine hK _ ?_
    clear hK K)
  intro w6 hD
  have HBB := Lib.hid (HB.out w6 hD)
  clear hD HB D0 C1 C2 HAP
  go_wp2
  go_ret
  exact ⟨_, rfl, Nat.le_refl _, HBB.out.1, HBB.out.2⟩
set_option maxHeartbeats 6400000 in
set_option maxRecDepth 16384 in
theorem did_kill {s : Nat} {w : World} {t m r : Nat} {L : List Pr} {last : Int} (h : Both s w t m r L last) (d pid stat uid gid : Int) (ch : ByteArray) (hd : d % 8 = 5) :
    Calls Try.prog 18 #[.pointer (some ⟨t, 0, none⟩), .pointer (some ⟨r, 0, none⟩), .agg #[.int .i64 d, .int .i64 pid, .int .i64 stat, .int .i64 uid, .int .i64 gid, .string ch]] w (DidQ s w t m r L last ⟨d, pid, stat, uid, gid, txt ch⟩) := by
  have hs0 : Same (fun _ => False) w (w.alloc (.cells #[.int .i64 d, .int .i64 pid, .int .i64 stat, .int .i64 uid, .int .i64 gid, .string ch] 47)) := same_alloc _
  obtain ⟨g, cap, hR, hap⟩ := h.ref
  have hw8 := wrap8 d
  rw [hd] at hw8
  obtain ⟨L', hL'⟩ : ∃ L', L' = actL L last ⟨d, pid, stat, uid, gid, txt ch⟩ w.heap.size := ⟨_, rfl⟩
  have hl' : last = actLast L last ⟨d, pid, stat, uid, gid, txt ch⟩ := by simp only [actLast, hd]; rfl
  have HAP := Lib.hid (show Apart2 w t m r g L L' from ⟨fun k hk => ⟨own_lt h.tab.tab hk, hap k hk⟩, fun k hk => by
    rw [hL', actL_irrel (by simp only; omega) w.heap.size t] at hk
    rcases own_actL hk with e | e
    · exact e
    · exact .inl e, hR.lt.1, hR.lt.2.1⟩)
  have hL2 : L' = putO L (kl L pid).2 := by rw [hL']; simp only [actL, hd]; rfl
  have hI := h.tab.inv
  have hst := h.st
  have C1 := Lib.hid (fun W (hT : TabAt W t m L last) => (kill_any ⟨hT, hI⟩ pid))
  have C2 := Lib.hid (fun W gg cc (hT : RAt s W r gg cc L last) => (rkill_any hT hI hst pid))
  rw [← hL2] at C1 C2
  have D0 := Lib.hid (show Two s w t m r g L L' last ⟨d, pid, stat, uid, gid, ch⟩ false false (w.alloc (.cells #[.int .i64 d, .int .i64 pid, .int .i64 stat, .int .i64 uid, .int .i64 gid, .string ch] 47)).drew from
    ⟨(h.tab.tab.same0 hs0).same0 (Same.refl _ _).drew, ⟨g, cap, (hR.same0 hs0).same0 (Same.refl _ _).drew, .inl rfl⟩, by simp, by simp, by simp, by simp, by simp, (hs0.mono (fun _ _ h => h.elim)).drew⟩)
  have HB := Lib.hid (fun (w6 : World) (hD : Two s w t m r g L L' last ⟨d, pid, stat, uid, gid, ch⟩ true true w6) => two_both (x := ⟨d, pid, stat, uid, gid, txt ch⟩) HAP.out hI hst hR.lt.2.2 hL' hl' hD)
  clear h hR hap hI hst hL' hl' hL2 hs0
  unfold DidQ
  go_enter Try.func18, Try.ntmps18
  go_wp2_with fail
  refine wp_region_two (Two s w t m r g L L' last ⟨d, pid, stat, uid, gid, ch⟩) 3 7 (by kernel_rfl) (by kernel_rfl) (by decide) (by decide) (by decide) (by decide) (by decide) D0.out ?_
  iterate 3 (
    refine wpTwo_stepK (fun K hK => ⟨rfl, ?_, ?_, ?_⟩)
    rotate_left
    · refine twoAt_other rfl rfl (fun b b' w' hD => ?_)
      have h1 := hD.c1
      have h2 := hD.c2
      have h3 := hD.c3
      have h4 := hD.c4
      have h5 := hD.c5
      go_simp
      exact rfl
    go_simp
    refine hK _ ?_
    clear hK K)
  refine wpTwo_stepK (fun K hK => ⟨rfl, ?_, ?_, ?_⟩)
  rotate_left
  · refine twoAt_one (fun b w' hD => ?_)
    go_simp
    exact two_one HAP.out C1.out hD
  go_simp
  refine hK _ ?_
  clear hK K
  iterate 3 (
    refine wpTwo_stepK (fun K hK => ⟨rfl, ?_, ?_, ?_⟩)
    rotate_left
    · refine twoAt_other rfl rfl (fun b b' w' hD => ?_)
      have h1 := hD.c1
      have h2 := hD.c2
      have h3 := hD.c3
      have h4 := hD.c4
      have h5 := hD.c5
      go_simp
      exact rfl
    go_simp
    refine hK _ ?_
    clear hK K)
  refine wpTwo_stepK (fun K hK => ⟨rfl, ?_, ?_, ?_⟩)
  rotate_left
  · refine twoAt_two rfl (fun b w' hD => ?_)
    go_simp
    exact two_two HAP.out C2.out hD
  go_simp
  refine hK _ ?_
  clear hK K
  iterate 2 (
    refine wpTwo_stepK (fun K hK => ⟨rfl, ?_, ?_, ?_⟩)
    rotate_left
    · refine twoAt_other rfl rfl (fun b b' w' hD => ?_)
      have h1 := hD.c1
      have h2 := hD.c2
      have h3 := hD.c3
      have h4 := hD.c4
      have h5 := hD.c5
      go_simp
      exact rfl
    go_simp
    refine hK _ ?_
    clear hK K)
  intro w6 hD
  have HBB := Lib.hid (HB.out w6 hD)
  clear hD HB D0 C1 C2 HAP
  go_wp2
  go_ret
  exact ⟨_, rfl, Nat.le_refl _, HBB.out.1, HBB.out.2⟩
set_option maxHeartbeats 6400000 in
set_option maxRecDepth 16384 in
theorem did_sleep {s : Nat} {w : World} {t m r : Nat} {L : List Pr} {last : Int} (h : Both s w t m r L last) (d pid stat uid gid : Int) (ch : ByteArray) (hd : d % 8 = 6) :
    Calls Try.prog 18 #[.pointer (some ⟨t, 0, none⟩), .pointer (some ⟨r, 0, none⟩), .agg #[.int .i64 d, .int .i64 pid, .int .i64 stat, .int .i64 uid, .int .i64 gid, .string ch]] w (DidQ s w t m r L last ⟨d, pid, stat, uid, gid, txt ch⟩) := by
  have hs0 : Same (fun _ => False) w (w.alloc (.cells #[.int .i64 d, .int .i64 pid, .int .i64 stat, .int .i64 uid, .int .i64 gid, .string ch] 47)) := same_alloc _
  obtain ⟨g, cap, hR, hap⟩ := h.ref
  have hw8 := wrap8 d
  rw [hd] at hw8
  obtain ⟨L', hL'⟩ : ∃ L', L' = actL L last ⟨d, pid, stat, uid, gid, txt ch⟩ w.heap.size := ⟨_, rfl⟩
  have hl' : last = actLast L last ⟨d, pid, stat, uid, gid, txt ch⟩ := by simp only [actLast, hd]; rfl
  have HAP := Lib.hid (show Apart2 w t m r g L L' from ⟨fun k hk => ⟨own_lt h.tab.tab hk, hap k hk⟩, fun k hk => by
    rw [hL', actL_irrel (by simp only; omega) w.heap.size t] at hk
    rcases own_actL hk with e | e
    · exact e
    · exact .inl e, hR.lt.1, hR.lt.2.1⟩)
  have hL2 : L' = putO L (slP L pid (txt ch)) := by rw [hL']; simp only [actL, hd]; rfl
  have hI := h.tab.inv
  have hst := h.st
  have C1 := Lib.hid (fun W (hT : TabAt W t m L last) => (sleep_any ⟨hT, hI⟩ pid (txt ch)))
  have C2 := Lib.hid (fun W gg cc (hT : RAt s W r gg cc L last) => (rsleep_any hT hI pid (txt ch)))
  rw [← hL2] at C1 C2
  have D0 := Lib.hid (show Two s w t m r g L L' last ⟨d, pid, stat, uid, gid, ch⟩ false false (w.alloc (.cells #[.int .i64 d, .int .i64 pid, .int .i64 stat, .int .i64 uid, .int .i64 gid, .string ch] 47)).drew from
    ⟨(h.tab.tab.same0 hs0).same0 (Same.refl _ _).drew, ⟨g, cap, (hR.same0 hs0).same0 (Same.refl _ _).drew, .inl rfl⟩, by simp, by simp, by simp, by simp, by simp, (hs0.mono (fun _ _ h => h.elim)).drew⟩)
  have HB := Lib.hid (fun (w6 : World) (hD : Two s w t m r g L L' last ⟨d, pid, stat, uid, gid, ch⟩ true true w6) => two_both (x := ⟨d, pid, stat, uid, gid, txt ch⟩) HAP.out hI hst hR.lt.2.2 hL' hl' hD)
  clear h hR hap hI hst hL' hl' hL2 hs0
  unfold DidQ
  go_enter Try.func18, Try.ntmps18
  go_wp2_with fail
  refine wp_region_two (Two s w t m r g L L' last ⟨d, pid, stat, uid, gid, ch⟩) 6 13 (by kernel_rfl) (by kernel_rfl) (by decide) (by decide) (by decide) (by decide) (by decide) D0.out ?_
  iterate 5 (
    refine wpTwo_stepK (fun K hK => ⟨rfl, ?_, ?_, ?_⟩)
    rotate_left
    · refine twoAt_other rfl rfl (fun b b' w' hD => ?_)
      have h1 := hD.c1
      have h2 := hD.c2
      have h3 := hD.c3
      have h4 := hD.c4
      have h5 := hD.c5
      go_simp
      exact rfl
    go_simp
    refine hK _ ?_
    clear hK K)
  refine wpTwo_stepK (fun K hK => ⟨rfl, .string (txt ch), ?_, ?_⟩)
  · refine twoAt_other rfl rfl (fun b b' w' hD => ?_)
    go_simp
    exact (text_any _ _).mono (fun e w'' h => ⟨h.1, h.2 ▸ hD⟩)
  go_simp
  refine hK _ ?_
  clear hK K
  refine wpTwo_stepK (fun K hK => ⟨rfl, ?_, ?_, ?_⟩)
  rotate_left
  · refine twoAt_one (fun b w' hD => ?_)
    go_simp
    exact two_one HAP.out C1.out hD
  go_simp
  refine hK _ ?_
  clear hK K
  iterate 5 (
    refine wpTwo_stepK (fun K hK => ⟨rfl, ?_, ?_, ?_⟩)
    rotate_left
    · refine twoAt_other rfl rfl (fun b b' w' hD => ?_)
      have h1 := hD.c1
      have h2 := hD.c2
      have h3 := hD.c3
      have h4 := hD.c4
      have h5 := hD.c5
      go_simp
      exact rfl
    go_simp
    refine hK _ ?_
    clear hK K)
  refine wpTwo_stepK (fun K hK => ⟨rfl, .string (txt ch), ?_, ?_⟩)
  · refine twoAt_other rfl rfl (fun b b' w' hD => ?_)
    go_simp
    exact (text_any _ _).mono (fun e w'' h => ⟨h.1, h.2 ▸ hD⟩)
  go_simp
  refine hK _ ?_
  clear hK K
  refine wpTwo_stepK (fun K hK => ⟨rfl, ?_, ?_, ?_⟩)
  rotate_left
  · refine twoAt_two rfl (fun b w' hD => ?_)
    go_simp
    exact two_two HAP.out C2.out hD
  go_simp
  refine hK _ ?_
  clear hK K
  iterate 2 (
    refine wpTwo_stepK (fun K hK => ⟨rfl, ?_, ?_, ?_⟩)
    rotate_left
    · refine twoAt_other rfl rfl (fun b b' w' hD => ?_)
      have h1 := hD.c1
      have h2 := hD.c2
      have h3 := hD.c3
      have h4 := hD.c4
      have h5 := hD.c5
      go_simp
      exact rfl
    go_simp
    refine hK _ ?_
    clear hK K)
  intro w6 hD
  have HBB := Lib.hid (HB.out w6 hD)
  clear hD HB D0 C1 C2 HAP
  go_wp2
  go_ret
  exact ⟨_, rfl, Nat.le_refl _, HBB.out.1, HBB.out.2⟩
end Go.Proofs.Ytaeabeofpkfadaa
