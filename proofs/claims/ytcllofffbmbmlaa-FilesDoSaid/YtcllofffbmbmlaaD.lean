import Derived.Test.YtcllofffbmbmlaaC
import Derived.BigRegion
namespace Go.Proofs.Ytcllofffbmbmlaa
open Go.RowKit Go.Shelf
attribute [local go_sem] Oper.semAt_some MapIs_alloc MapIs_setCell MapIs_drewN MapIs_drew

inductive OpenR (L : List Ent) (pid K T : Int) : List Ent → Int → Int → Prop
  | arg : pid < 1 ∨ K < 1 ∨ T < 0 → OpenR L pid K T L 0 2
  | fds : 1 ≤ pid → 1 ≤ K → 0 ≤ T → (∀ k : Nat, k < 8 → ent L pid k ≠ none) → OpenR L pid K T L 0 81
  | files (k : Nat) : 1 ≤ pid → 1 ≤ K → 0 ≤ T → k < 8 → ent L pid k = none → cnt L = 32 → OpenR L pid K T L 0 82
  | ok (k b : Nat) : 1 ≤ pid → 1 ≤ K → 0 ≤ T → k < 8 → ent L pid k = none → (∀ j : Nat, j < k → ent L pid j ≠ none) → cnt L ≠ 32 → (∀ e ∈ L, e.blk ≠ b) → OpenR L pid K T (⟨pid, k, b, K, T⟩ :: L) k 0

theorem slot_none {L : List Ent} {p : Int} {i : Nat} : slot L p i = none ↔ ent L p i = none := by unfold slot; simp

/-- What an operation leaves. -/
def Step (w : World) (f m : Nat) (L' : List Ent) (w' : World) : Prop := ∃ al', Rep w' f m L' al' ∧ Same (Own w m) w w'

theorem own_trans {w w1 w2 : World} {m : Nat} (h1 : Same (Own w m) w w1) (h2 : Same (Own w1 m) w1 w2) : Same (Own w m) w w2 := by
  refine h1.trans' h2 ?_
  rintro k ⟨hl, rfl | ⟨t, n, h, ht⟩⟩ hk
  · exact ⟨hl, .inl rfl⟩
  · exact ⟨hl, .inr ⟨t, n, (h1.shp k hk).symm.trans h, ht⟩⟩
theorem own_of {w w1 : World} {m : Nat} (h1 : Same (fun _ => False) w w1) : Same (Own w m) w w1 := h1.mono (fun _ _ h => h.elim)
theorem own_m {w w1 : World} {m : Nat} (h1 : Same (· = m) w w1) : Same (Own w m) w w1 := h1.mono (fun b _ h => by subst h; exact ⟨Nat.le_refl _, .inl rfl⟩)

theorem Rep.rowAt {w : World} {f m : Nat} {L : List Ent} {al : List (Int × Value)} (h : Rep w f m L al) {pid : Int} {rb : Nat} (hr : aget al pid = some (.pointer (some ⟨rb, 0, none⟩))) : RowAt w rb (slot L pid) := by
  obtain ⟨rb', hrb', hrow, _⟩ := h.row pid _ (aget_mem hr)
  obtain rfl : rb = rb' := by simpa using hrb'
  exact hrow

theorem Rep.ownF {w : World} {f m : Nat} {L : List Ent} {al : List (Int × Value)} (h : Rep w f m L al) : Own w m f := ⟨h.lof, .inr ⟨_, _, h.fs, by simp⟩⟩
theorem Rep.ownRow {w : World} {f m : Nat} {L : List Ent} {al : List (Int × Value)} (h : Rep w f m L al) {pid : Int} {rb : Nat} (hr : aget al pid = some (.pointer (some ⟨rb, 0, none⟩))) : Own w m rb := by
  obtain ⟨rb', hrb', _, _, hs⟩ := h.row pid _ (aget_mem hr)
  obtain rfl : rb = rb' := by simpa using hrb'
  exact ⟨h.lor _ _ (aget_mem hr), .inr ⟨_, _, hs, by simp⟩⟩
theorem Rep.ownFile {w : World} {f m : Nat} {L : List Ent} {al : List (Int × Value)} (h : Rep w f m L al) {e : Ent} (he : e ∈ L) : Own w m e.blk := ⟨h.lob e he, .inr ⟨_, _, (h.file e he).2.2.2.2, by simp⟩⟩

set_option maxHeartbeats 1600000 in
theorem open_any {w : World} {f m : Nat} {L : List Ent} {al : List (Int × Value)} (hrep : Rep w f m L al) (pid K T : Int) (hcl : cnt L < 1000) :
    Calls Try.prog 12 #[.pointer (some ⟨f, 0, none⟩), .int .i64 pid, .agg #[.int .i64 K, .int .i64 T]] w fun e w' =>
      ∃ L' r er, e = .returned (.tuple #[.int .i64 r, .int .i64 er]) ∧ OpenR L pid K T L' r er ∧ Step w f m L' w' := by
  have hmn := hrep.lt.2
  by_cases hp : pid < 1
  · have h1 : decide (1 ≤ pid) = false := by simpa using hp
    go_enter Try.func12, Try.ntmps12
    go_wp2_with (go_at_call 23; refine (check1 _ (w.heap.size + 1) _ pid (by simp [go_sem])).mono ?_; rintro e w' ⟨rfl, rfl⟩)
    go_ret2
    exact ⟨L, 0, 2, rfl, .arg (.inl hp), al, hrep.same0 ((same_alloc _).alloc _), own_of ((same_alloc _).alloc _)⟩
  · have hR : Rep (((w.alloc (.cells #[.int .i64 K, .int .i64 T] 23)).alloc (.cells #[.int .i64 pid] 3)).alloc (.cells #[.int .i64 0, .int .i64 0] 23)) f m L al := hrep.same0 (((same_alloc _).alloc _).alloc _)
    have hfin : ∀ w2 w3, Same (· = m) (((w.alloc (.cells #[.int .i64 K, .int .i64 T] 23)).alloc (.cells #[.int .i64 pid] 3)).alloc (.cells #[.int .i64 0, .int .i64 0] 23)) w2 → Same (fun _ => False) w2 w3 → Same (Own w m) w w3 :=
      fun w2 w3 h1 h2 => own_m ((((same_alloc _).alloc _).alloc _ |>.mono (fun _ _ h => h.elim)).trans (h1.trans (h2.mono (fun _ _ h => h.elim))))
    by_cases hK : K < 1
    · by_cases hz : (K == 0 && T == 0) = true
      all_goals
        go_enter Try.func12, Try.ntmps12
        go_wp2_with (first | (go_at_call 23; refine (check1 _ (w.heap.size + 1) _ pid (by simp [go_sem])).mono ?_; rintro e w' ⟨rfl, rfl⟩) | (go_at_call 24; refine (row_any hR pid).mono ?_; rintro e w2 ⟨rb, al2, rfl, hR2, hg2, hs2, hal2⟩) | (go_at_call 25; refine (free_any _ rb _ (hR2.rowAt hg2)).mono ?_; rintro e w3 ⟨r, hfr, rfl, hs3⟩; have hs4 := hs2.trans (hs3.mono (fun _ _ h => h.elim)); have c0 := hs4.cell (a := ⟨w.heap.size, 0, none⟩) (v := .int .i64 K) (by simp [go_sem]) (by simp; omega); have c1 := hs4.cell (a := ⟨w.heap.size, 1, none⟩) (v := .int .i64 T) (by simp [go_sem]) (by simp; omega); have c2 := hs4.cell (a := ⟨w.heap.size + 1 + 1, 0, none⟩) (v := .int .i64 0) (by simp [go_sem]) (by simp; omega); have c3 := hs4.cell (a := ⟨w.heap.size + 1 + 1, 1, none⟩) (v := .int .i64 0) (by simp [go_sem]) (by simp; omega)))
      all_goals
        go_ret2
        exact ⟨L, 0, 2, rfl, .arg (.inr (.inl (by omega))), al2, hR2.same0 hs3, hfin _ _ hs2 hs3⟩
    · have hKz : (K == 0) = false := by rw [beq_eq_false_iff_ne]; omega
      by_cases hT : T < 0
      · go_enter Try.func12, Try.ntmps12
        go_wp2_with (first | (go_at_call 23; refine (check1 _ (w.heap.size + 1) _ pid (by simp [go_sem])).mono ?_; rintro e w' ⟨rfl, rfl⟩) | (go_at_call 24; refine (row_any hR pid).mono ?_; rintro e w2 ⟨rb, al2, rfl, hR2, hg2, hs2, hal2⟩) | (go_at_call 25; refine (free_any _ rb _ (hR2.rowAt hg2)).mono ?_; rintro e w3 ⟨r, hfr, rfl, hs3⟩; have hs4 := hs2.trans (hs3.mono (fun _ _ h => h.elim)); have c0 := hs4.cell (a := ⟨w.heap.size, 0, none⟩) (v := .int .i64 K) (by simp [go_sem]) (by simp; omega); have c1 := hs4.cell (a := ⟨w.heap.size, 1, none⟩) (v := .int .i64 T) (by simp [go_sem]) (by simp; omega); have c2 := hs4.cell (a := ⟨w.heap.size + 1 + 1, 0, none⟩) (v := .int .i64 0) (by simp [go_sem]) (by simp; omega); have c3 := hs4.cell (a := ⟨w.heap.size + 1 + 1, 1, none⟩) (v := .int .i64 0) (by simp [go_sem]) (by simp; omega)))
        go_ret2
        exact ⟨L, 0, 2, rfl, .arg (.inr (.inr hT)), al2, hR2.same0 hs3, hfin _ _ hs2 hs3⟩
      · have hlk := fun (W : World) (al : List (Int × Value)) (hm : MapIs kvi W m al) => lk57n hm pid
        by_cases hc32 : cnt L = 32
        · have hcb : ((cnt L : Int) == 32) = true := by rw [beq_iff_eq]; omega
          have HC := Lib.hid hc32
          clear hc32
          go_enter Try.func12, Try.ntmps12
          go_wp2_with (first | (go_at_call 23; refine (check1 _ (w.heap.size + 1) _ pid (by simp [go_sem])).mono ?_; rintro e w' ⟨rfl, rfl⟩) | (go_at_call 24; refine (row_any hR pid).mono ?_; rintro e w2 ⟨rb, al2, rfl, hR2, hg2, hs2, hal2⟩) | (go_at_call 25; refine (free_any _ rb _ (hR2.rowAt hg2)).mono ?_; rintro e w3 ⟨r, (⟨rfl, hfr⟩ | ⟨k, hk, rfl, hg, hfr⟩), rfl, hs3⟩; all_goals (have hs4 := hs2.trans (hs3.mono (fun _ _ h => h.elim)); have c0 := hs4.cell (a := ⟨w.heap.size, 0, none⟩) (v := .int .i64 K) (by simp [go_sem]) (by simp; omega); have c1 := hs4.cell (a := ⟨w.heap.size, 1, none⟩) (v := .int .i64 T) (by simp [go_sem]) (by simp; omega); have c2 := hs4.cell (a := ⟨w.heap.size + 1 + 1, 0, none⟩) (v := .int .i64 0) (by simp [go_sem]) (by simp; omega); have c3 := hs4.cell (a := ⟨w.heap.size + 1 + 1, 1, none⟩) (v := .int .i64 0) (by simp [go_sem]) (by simp; omega); have hR3 := hR2.same0 hs3; have f0 := hR3.f0; have f1 := hR3.f1; have ff := hR3.ff)))
          · go_ret2
            exact ⟨L, 0, 81, rfl, .fds (by omega) (by omega) (by omega) (fun i hi e => hfr i hi (slot_none.2 e)), al2, hR2.same0 hs3, hfin _ _ hs2 hs3⟩
          · go_ret2
            exact ⟨L, 0, 82, rfl, .files k (by omega) (by omega) (by omega) hk (slot_none.1 hg) HC.out, al2, hR2.same0 hs3, hfin _ _ hs2 hs3⟩
        · have hcb : ((cnt L : Int) == 32) = false := by rw [beq_eq_false_iff_ne]; omega
          have HC := Lib.hid hc32
          clear hc32
          go_enter Try.func12, Try.ntmps12
          go_wp2_with (first | (go_at_call 23; refine (check1 _ (w.heap.size + 1) _ pid (by simp [go_sem])).mono ?_; rintro e w' ⟨rfl, rfl⟩) | (go_at_call 24; refine (row_any hR pid).mono ?_; rintro e w2 ⟨rb, al2, rfl, hR2, hg2, hs2, hal2⟩) | (go_at_call 25; refine (free_any _ rb _ (hR2.rowAt hg2)).mono ?_; rintro e w3 ⟨r, (⟨rfl, hfr⟩ | ⟨k, hk, rfl, hg, hfr⟩), rfl, hs3⟩; all_goals (have hs4 := hs2.trans (hs3.mono (fun _ _ h => h.elim)); have c0 := hs4.cell (a := ⟨w.heap.size, 0, none⟩) (v := .int .i64 K) (by simp [go_sem]) (by simp; omega); have c1 := hs4.cell (a := ⟨w.heap.size, 1, none⟩) (v := .int .i64 T) (by simp [go_sem]) (by simp; omega); have c2 := hs4.cell (a := ⟨w.heap.size + 1 + 1, 0, none⟩) (v := .int .i64 0) (by simp [go_sem]) (by simp; omega); have c3 := hs4.cell (a := ⟨w.heap.size + 1 + 1, 1, none⟩) (v := .int .i64 0) (by simp [go_sem]) (by simp; omega); have hR3 := hR2.same0 hs3; have f0 := hR3.f0; have f1 := hR3.f1; have ff := hR3.ff)))
          · go_ret2
            exact ⟨L, 0, 81, rfl, .fds (by omega) (by omega) (by omega) (fun i hi e => hfr i hi (slot_none.2 e)), al2, hR2.same0 hs3, hfin _ _ hs2 hs3⟩
          · have hR3 := hR2.same0 hs3
            obtain ⟨rb', hrb', hrow, hrz, hrs⟩ := hR3.row pid _ (aget_mem hg2)
            obtain rfl : rb = rb' := by simpa using hrb'
            have hcr := hrow k hk
            rw [hg] at hcr
            simp only [pv, Option.map_none] at hcr
            have hcz := hrz k hk
            have hlk1 := hlk w3.drew al2 hR3.hm
            have hlk2 := hlk (w3.alloc (.cells #[.int .i64 K, .int .i64 T, .int .i64 1] 65)).drew al2 (MapIs_alloc hR3.hm _)
            rw [hg2] at hlk1 hlk2
            simp only [Option.getD_some] at hlk1 hlk2
            have HR3 := Lib.hid hR3
            have hl1 : f < w3.heap.size := hR3.lt.1
            have hl2 : rb < w3.heap.size := World.block_lt_of_cell? _ _ hcr
            have hl3 : w.heap.size < w3.heap.size := World.block_lt_of_cell? _ _ c0
            have hl4 : w.heap.size + 1 + 1 < w3.heap.size := World.block_lt_of_cell? _ _ c2
            have hrf : rb ≠ f := by
              intro e; subst e
              have := hR3.fs; rw [hrs] at this; cases this
            have hrf' := hrf.symm
            clear hlk hrow hrz hR3 hrb' hrs
            go_region
            all_goals go_wp2
            all_goals
              go_ret2
              have hR3 := HR3.out
              have hbl : ∀ e ∈ L, e.blk ≠ w3.heap.size := fun e he => by
                have := World.block_lt_of_cell? _ _ (hR3.file e he).1
                simp at this; omega
              have hO := hR3.open (K := K) (T := T) hg2 hk (slot_none.1 hg) (by omega)
              rw [World.setCell_alloc_past _ _ _ _ hl2, World.setCell_alloc_past _ _ _ _ (by simpa using hl1)] at hO
              refine ⟨_, k, 0, rfl, .ok k w3.heap.size (by omega) (by omega) (by omega) hk (slot_none.1 hg) (fun j hj e => hfr j hj (slot_none.2 e)) HC.out hbl, al2, hO.same0 (Same.refl _ _).drew, ?_⟩
              refine own_trans (hfin _ _ hs2 hs3) ?_
              exact ((((Same.refl _ _).setCell _ (.inr (hR3.ownRow hg2))).setCell _ (.inr hR3.ownF)).alloc _).drew
end Go.Proofs.Ytcllofffbmbmlaa
