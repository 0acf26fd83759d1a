import Derived.Test.YtcllofffbmbmlaaRows
import Derived.Test.YtcllofffbmbmlaaLib
import Derived.Deep.QuietTactic
import Derived.BigQuiet
import Derived.Sort.QuietTacIn
import Derived.Sort.BigQuietIn
import Derived.Below
import Derived.Lib.Hide
namespace Go.Proofs.Ytcllofffbmbmlaa
open Go.RowKit Go.Shelf
attribute [local go_sem] Oper.semAt_some
set_option maxHeartbeats 400000 in
theorem are1 (w : World) (b : Nat) (n : Int) (hc : w.cell? ⟨b, 0, none⟩ = some (.int .i64 n)) :
    Calls Try.prog 36 #[.slice (some ⟨b, 0, none⟩) 1 1] w fun e w' => e = .returned (.bool (decide (1 ≤ n))) ∧ w = w' := by
  by_cases h : n < 1
  · go_enter Try.func36, Try.ntmps36
    go_wp2
    refine wp_loop_rounds 1 ?_
    rw [rounds_succ]
    go_wp2
    go_ret
    exact ⟨by simp; omega, rfl⟩
  · go_enter Try.func36, Try.ntmps36
    go_wp2
    refine wp_loop_rounds 2 ?_
    rw [rounds_succ]
    go_wp2
    rw [rounds_succ]
    go_wp2
    go_ret
    exact ⟨by simp; omega, rfl⟩
set_option maxHeartbeats 400000 in
theorem check1 (w : World) (b : Nat) (f : Addr) (n : Int) (hc : w.cell? ⟨b, 0, none⟩ = some (.int .i64 n)) :
    Calls Try.prog 23 #[.pointer (some f), .slice (some ⟨b, 0, none⟩) 1 1] w fun e w' => e = .returned (.int .i64 (if 1 ≤ n then 0 else 2)) ∧ w = w' := by
  by_cases h : 1 ≤ n
  · go_enter Try.func23, Try.ntmps23
    go_wp2_with (go_at_call 36; refine (are1 _ _ _ hc).mono ?_; rintro e w' ⟨rfl, rfl⟩)
    go_ret
    exact ⟨by simp, rfl⟩
  · have h' : decide (1 ≤ n) = false := by simpa using h
    go_enter Try.func23, Try.ntmps23
    go_wp2_with (go_at_call 36; refine (are1 _ _ _ hc).mono ?_; rintro e w' ⟨rfl, rfl⟩)
    go_ret
    exact ⟨by simp, rfl⟩

def pv (o : Option Nat) : Value := .pointer (o.map fun b => ⟨b, 0, none⟩)

/-- The iterator over a row: J holds between rounds. -/
theorem each1 (l bx rb : Nat) (g : Nat → Option Nat) (J : Nat → World → Prop) (Jx : World → Prop)
    (hdr : ∀ i W k, J i W → J i (W.drewN k))
    (hc : ∀ i W, i < 8 → J i W → W.cell? ⟨rb, i, none⟩ = some (pv (g i)))
    (hno : ∀ i W, i < 8 → J i W → g i = none → J (i + 1) W)
    (hy : ∀ i x W, i < 8 → J i W → g i = some x → YieldAt Fence.wide 0 Try.prog l #[.int .i64 i, .pointer (some ⟨x, 0, none⟩)] W fun e W' =>
      (e = .returned (.bool true) ∧ J (i + 1) W') ∨ (e = .returned (.bool false) ∧ Jx W'))
    (w : World) (hb : w.cell? ⟨bx, 0, none⟩ = some (.pointer (some ⟨rb, 0, none⟩))) (h0 : J 0 w) :
    Calls Try.prog 37 #[.func (.yield l) #[] #[], .pointer (some ⟨bx, 0, none⟩)] w fun e W => (∃ v, e = .returned v) ∧ (J 8 W ∨ Jx W) := by
  refine (callsIn_wide (n := 0)).1 ?_
  refine callsIn_of_wp Try.func37 rfl trivial ?_ rfl
  simp only [Try.ntmps37, List.size_toArray, List.length_cons, List.length_nil, Nat.reduceAdd, Nat.reduceSub, Array.replicate_succ, Array.replicate_zero, List.push_toArray, List.append_toArray, List.nil_append, List.cons_append]
  gi_wp2
  gi_loopw [6] (fun p wr => ∃ k : Nat, k ≤ 8 ∧ p = .int .i64 k ∧ J k wr) (fun p _ => 8 - (intOf p).toNat)
  case atStart => exact ⟨0, by omega, rfl, h0⟩
  case round =>
    obtain ⟨k, hk, rfl, hJ⟩ := hrel
    by_cases hlt : k < 8
    · cases hg : g k with
      | none =>
        have hcell := hc k wr hlt hJ
        rw [hg] at hcell
        have hJ' := hno k wr hlt hJ hg
        clear hg
        simp only [pv, Option.map_none] at hcell
        gi_wp2
        gi_quiet_th (fail)
        gi_wp2
        go_roundw
        case rel => exact ⟨k + 1, by omega, by go_num, hdr _ _ _ hJ'⟩
        case measure => simp [intOf]; omega
      | some x =>
        have hcell := hc k wr hlt hJ
        rw [hg] at hcell
        simp only [pv, Option.map_some] at hcell
        have HG := Lib.hid hg
        clear hg
        gi_wp2
        gi_quiet_th (fail)
        rename_i nq
        obtain ⟨fn, tmps, assign, body, hye, hR⟩ := hy k x (wr.drewN nq) hlt (hdr _ _ _ hJ) HG.out
        gi_wp2
        refine hR.mono ?_
        rintro e W3 (⟨rfl, hJ3⟩ | ⟨rfl, hJx3⟩)
        · gi_wp2
          go_roundw
          case rel => exact ⟨k + 1, by omega, by go_num, hJ3⟩
          case measure => simp [intOf]; omega
        · gi_wp2
          refine bodyPost_ret (results_none rfl _ _ _) rfl ⟨⟨_, rfl⟩, .inr hJx3⟩
    · have hk8 : k = 8 := by omega
      gi_wp2
      refine bodyPost_end (results_none rfl _ _ _) rfl ⟨⟨_, rfl⟩, ?_⟩
      subst hk8
      exact .inl hJ

theorem each_any (w : World) (rb : Nat) :
    Calls Try.prog 27 #[.pointer (some ⟨rb, 0, none⟩)] w fun e w' => e = .returned (.func (.func 37) #[] #[.pointer (some ⟨w.heap.size, 0, none⟩)]) ∧ w' = w.alloc (.cells #[.pointer (some ⟨rb, 0, none⟩)] 61) := by
  go_enter Try.func27, Try.ntmps27
  go_wp2
  go_ret
  exact ⟨rfl, rfl⟩

/-- The least free descriptor of a row; below 0: none. -/
def FreeIs (g : Nat → Option Nat) (r : Int) : Prop := (r = -1 ∧ ∀ i, i < 8 → g i ≠ none) ∨ ∃ k : Nat, k < 8 ∧ r = k ∧ g k = none ∧ ∀ j, j < k → g j ≠ none

def RowAt (w : World) (rb : Nat) (g : Nat → Option Nat) : Prop := ∀ i, i < 8 → w.cell? ⟨rb, i, none⟩ = some (pv (g i))

set_option maxHeartbeats 800000 in
theorem free_any (w : World) (rb : Nat) (g : Nat → Option Nat) (hrow : RowAt w rb g) :
    Calls Try.prog 25 #[.pointer (some ⟨rb, 0, none⟩)] w fun e w' => ∃ r, FreeIs g r ∧ e = .returned (.int .i64 r) ∧ Same (fun _ => False) w w' := by
  refine (callsIn_wide (n := 0)).1 ?_
  refine callsIn_of_wp_marks Try.func25 rfl trivial ?_ rfl
  simp only [Try.ntmps25, List.size_toArray, List.length_cons, List.length_nil, Nat.reduceAdd, Nat.reduceSub, Array.replicate_succ, Array.replicate_zero, List.push_toArray, List.append_toArray, List.nil_append, List.cons_append]
  have HR := Lib.hid hrow
  have hrb : rb < w.heap.size := World.block_lt_of_cell? _ _ (hrow 0 (by omega))
  clear hrow
  gi_wp2
  refine wpIn_scope_straight ?_
  gi_wp2
  refine wpIn_label ?_
  gi_wp2_with (gi_at_call 27; refine CallsIn.mono (callsIn_wide.2 (each_any _ _)) ?_; rintro e w' ⟨rfl, rfl⟩)
  refine range_wide (gf := 37) (lb := #[.pointer (some ⟨w.heap.size + 1, 0, none⟩)]) rfl (enters_of Try.func37 (by kernel_rfl) rfl) ?_
  intro rec D L W1 hD hL hrule hs1 hl1 hd1 _
  simp only [World.size_alloc, World.size_setCell] at hD
  have hc0 : W1.cell? ⟨w.heap.size, 0, none⟩ = some (.int .i64 0) := hs1.cell (by simp [go_sem]) (by simp)
  have hf0 : W1.frozen? ⟨w.heap.size, 0, none⟩ = false := (hs1.frozen (by simp; omega) (by simp)).trans (by simp [go_sem])
  have hb0 : W1.cell? ⟨w.heap.size + 1, 0, none⟩ = some (.pointer (some ⟨rb, 0, none⟩)) := hs1.cell (by simp [go_sem]) (by simp)
  have hs2 : Same (fun k => w.heap.size ≤ k) w W1 := (((Same.refl _ w).alloc _).alloc _).trans (hs1.mono (by simp))
  refine Calls.mono (each1 L (w.heap.size + 1) rb g (fun i W => ∃ n : Nat, n ≤ i ∧ (∀ j, j < n → g j ≠ none) ∧ (n < i → g n = none) ∧ W.cell? ⟨w.heap.size, 0, none⟩ = some (.int .i64 n) ∧
      W.frozen? ⟨w.heap.size, 0, none⟩ = false ∧ Same (fun k => w.heap.size ≤ k) w W ∧ W.heap[L]? = some (rec .ready none) ∧ W.heap[D]? = some (.deferred (some [])))
    (fun W => ∃ n : Nat, n < 8 ∧ (∀ j, j < n → g j ≠ none) ∧ g n = none ∧ W.cell? ⟨w.heap.size, 0, none⟩ = some (.int .i64 n) ∧
      Same (fun k => w.heap.size ≤ k) w W ∧ W.heap[L]? = some (rec .done (some (.exit 0))) ∧ W.heap[D]? = some (.deferred (some [])))
    ?_ ?_ ?_ ?_ W1 hb0 ⟨0, Nat.le_refl _, by simp, by simp, hc0, hf0, hs2, hl1, hd1⟩) ?_
  · rintro i W k ⟨n, h1, h2, h3, h4, h5, h6, h7, h8⟩
    exact ⟨n, h1, h2, h3, h4, h5, h6.drewN k, h7, h8⟩
  · rintro i W hi ⟨n, h1, h2, h3, h4, h5, h6, h7, h8⟩
    exact h6.cell (HR.out i hi) (by simp; omega)
  · rintro i W hi ⟨n, h1, h2, h3, h4, h5, h6, h7, h8⟩ hg
    exact ⟨n, by omega, h2, fun _ => if e : n = i then by rw [e]; exact hg else h3 (by omega), h4, h5, h6, h7, h8⟩
  · rintro i x W hi ⟨n, h1, h2, h3, h4, h5, h6, h7, h8⟩ hg
    refine hrule W _ _ h7 rfl ?_
    gi_wp2
    intro W2 hs2 hz2 hl2
    have hc2 := hs2.cell h4 (by simp; omega)
    have hf2 := hs2.unfrozen h4 h5 (by simp; omega)
    have hd2 := hs2.block h8 (by omega)
    have hs3 := h6.trans (hs2.mono (fun k _ e => by omega))
    by_cases hlt : n < i
    · have hgn := h3 hlt
      gi_wp2
      exact ⟨hl2, fun W3 hs4 _ hl4 => .inr ⟨rfl, n, by omega, h2, hgn, hs4.cell hc2 (by simp; omega), hs3.trans (hs4.mono (fun k _ e => by omega)), hl4, hs4.block hd2 (by omega)⟩⟩
    · have hni : n = i := by omega
      subst hni
      gi_wp2
      have hs5 : Same (fun k => w.heap.size ≤ k) W2 (W2.setCell ⟨w.heap.size, 0, none⟩ (.int .i64 (↑n + 1))) := (Same.refl _ _).setCell _ (.inr (Nat.le_refl _))
      have hs6 : Same (· = w.heap.size) W2 (W2.setCell ⟨w.heap.size, 0, none⟩ (.int .i64 (↑n + 1))) := (Same.refl _ _).setCell _ (.inr rfl)
      refine ⟨hs6.block hl2 (by omega), fun W3 hs4 _ hl4 => .inl ⟨rfl, n + 1, Nat.le_refl _, fun j hj => ?_, by omega, hs4.cell (by simpa using World.cell?_setCell_same _ _ _ hc2) (by simp; omega), ?_,
        (hs3.trans hs5).trans (hs4.mono (fun k _ e => by omega)), hl4, hs4.block (hs6.block hd2 (by omega)) (by omega)⟩⟩
      · by_cases e : j = n
        · rw [e, hg]; simp
        · exact h2 j (by omega)
      · exact (hs4.unfrozen (World.cell?_setCell_same _ _ _ hc2) (by simpa using hf2) (by simp; omega))
  · rintro e W ⟨⟨v, rfl⟩, ⟨n, h1, h2, h3, h4, h5, h6, h7, h8⟩ | ⟨n, h1, h2, h3, h4, h6, h7, h8⟩⟩
    · refine ⟨⟨_, rfl⟩, .inl ⟨h7, fun W2 hs2 _ => ?_⟩⟩
      have hc2 := hs2.cell h4 (by simp; omega)
      have hd2 := hs2.block h8 (by omega)
      have hs3 := h6.trans (hs2.mono (fun k _ e => by omega))
      by_cases h8 : n = 8
      · subst h8
        gi_wp2
        refine leaves_mark hd2 fun W3 hs4 _ => ⟨results_tmp rfl _ _ _, ?_⟩
        exact ⟨_, .inl ⟨rfl, h2⟩, rfl, (hs3.trans (hs4.mono (fun k _ e => by omega))).mono (fun k h h' => by omega)⟩
      · have h9 : ((n : Int) == 8) = false := by rw [beq_eq_false_iff_ne]; omega
        have hgn := h3 (by omega)
        gi_wp2
        refine leaves_mark hd2 fun W3 hs4 _ => ⟨results_tmp rfl _ _ _, ?_⟩
        exact ⟨_, .inr ⟨n, by omega, rfl, hgn, h2⟩, rfl, (hs3.trans (hs4.mono (fun k _ e => by omega))).mono (fun k h h' => by omega)⟩
    · refine ⟨⟨_, rfl⟩, .inr ⟨_, h7, fun W2 hs2 _ => ?_⟩⟩
      have hc2 := hs2.cell h4 (by simp; omega)
      have hd2 := hs2.block h8 (by omega)
      have hs3 := h6.trans (hs2.mono (fun k _ e => by omega))
      have h9 : ((n : Int) == 8) = false := by rw [beq_eq_false_iff_ne]; omega
      gi_wp2
      refine leaves_mark hd2 fun W3 hs4 _ => ⟨results_tmp rfl _ _ _, ?_⟩
      exact ⟨_, .inr ⟨n, by omega, rfl, h3, h2⟩, rfl, (hs3.trans (hs4.mono (fun k _ e => by omega))).mono (fun k h h' => by omega)⟩
end Go.Proofs.Ytcllofffbmbmlaa
