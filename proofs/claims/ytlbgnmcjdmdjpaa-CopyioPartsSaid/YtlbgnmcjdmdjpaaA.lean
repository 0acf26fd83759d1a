import Derived.Test.YtlbgnmcjdmdjpaaRows
import Derived.Test.YtlbgnmcjdmdjpaaLib
import Derived.Deep.QuietTactic
import Derived.BigQuiet
import Derived.Sort.QuietTacIn
import Derived.Sort.BigQuietIn
import Derived.Below
import Derived.Lib.Hide
/- Package frames: memory told as counts and bytes; the walks of within, isUsed, used. -/
namespace Go.Proofs.Ytlbgnmcjdmdjpaa
open Go.RowKit Go.Shelf
attribute [local go_sem] Oper.semAt_some

/-- Memory: how many frames, each one's count, its bytes. -/
structure Mm where
  n : Nat
  R : Nat → Int
  B : Nat → Nat → UInt8

structure MemAt (w : World) (f fb : Nat) (M : Mm) : Prop where
  f0 : w.cell? ⟨f, 0, none⟩ = some (.slice (some ⟨fb, 0, none⟩) M.n M.n)
  rc : ∀ i, i < M.n → w.cell? ⟨fb, i * 65, none⟩ = some (.int .i64 (M.R i))
  bc : ∀ i, i < M.n → ∀ k, k < 64 → w.cell? ⟨fb, i * 65 + 1 + k, none⟩ = some (.int .u8 ((M.B i k).toNat : Int))
  fz : ∀ o, w.frozen? ⟨fb, o, none⟩ = false
  sh : ∃ n, w.shape? fb = some (135, n)
  sf : ∃ n, w.shape? f = some (102, n)
  rR : ∀ i, i < M.n → 0 ≤ M.R i ∧ M.R i < 1000000
  ne : f ≠ fb
  n1 : 1 ≤ M.n
  n2 : M.n ≤ 256

theorem MemAt.lt {w : World} {f fb : Nat} {M : Mm} (h : MemAt w f fb M) : f < w.heap.size ∧ fb < w.heap.size :=
  ⟨World.block_lt_of_cell? _ _ h.f0, World.block_lt_of_cell? _ _ (h.rc 0 h.n1)⟩
theorem MemAt.same {w w' : World} {f fb : Nat} {M : Mm} {S : Nat → Prop} (h : MemAt w f fb M) (hs : Same S w w') (hf : ¬ S f) (hb : ¬ S fb) : MemAt w' f fb M := by
  obtain ⟨n, hn⟩ := h.sh
  obtain ⟨n', hn'⟩ := h.sf
  exact ⟨hs.cell h.f0 hf, fun i hi => hs.cell (h.rc i hi) hb, fun i hi k hk => hs.cell (h.bc i hi k hk) hb, fun o => (hs.frozen (a := ⟨fb, o, none⟩) h.lt.2 hb).trans (h.fz o),
    ⟨n, (hs.shp _ h.lt.2).trans hn⟩, ⟨n', (hs.shp _ h.lt.1).trans hn'⟩, h.rR, h.ne, h.n1, h.n2⟩
theorem MemAt.same0 {w w' : World} {f fb : Nat} {M : Mm} (h : MemAt w f fb M) (hs : Same (fun _ => False) w w') : MemAt w' f fb M := h.same hs (fun h => h) (fun h => h)

set_option maxHeartbeats 400000 in
theorem within1 (w : World) (b : Nat) (most n : Int) (hc : w.cell? ⟨b, 0, none⟩ = some (.int .i64 n)) :
    Calls Try.prog 73 #[.int .i64 most, .slice (some ⟨b, 0, none⟩) 1 1] w fun e w' => e = .returned (.bool (decide (0 ≤ n ∧ n ≤ most))) ∧ w = w' := by
  by_cases h : n < 0 ∨ most < n
  · have hb : (decide (n < 0) || decide (most < n)) = true := by simpa using h
    go_enter Try.func73, Try.ntmps73
    go_wp2
    refine wp_loop_rounds 1 ?_
    rw [rounds_succ]
    go_wp2
    all_goals
      go_ret
      exact ⟨by simp; omega, rfl⟩
  · have hb : (decide (n < 0) || decide (most < n)) = false := by simp; omega
    go_enter Try.func73, Try.ntmps73
    go_wp2
    refine wp_loop_rounds 2 ?_
    rw [rounds_succ]
    go_wp2
    rw [rounds_succ]
    go_wp2
    go_ret
    exact ⟨by simp; omega, rfl⟩
set_option maxHeartbeats 400000 in
theorem within2 (w : World) (b : Nat) (most n k : Int) (hc : w.cell? ⟨b, 0, none⟩ = some (.int .i64 n)) (hc2 : w.cell? ⟨b, 1, none⟩ = some (.int .i64 k)) :
    Calls Try.prog 73 #[.int .i64 most, .slice (some ⟨b, 0, none⟩) 2 2] w fun e w' => e = .returned (.bool (decide (0 ≤ n ∧ n ≤ most ∧ 0 ≤ k ∧ k ≤ most))) ∧ w = w' := by
  by_cases h : n < 0 ∨ most < n
  · have hb : (decide (n < 0) || decide (most < n)) = true := by simpa using h
    go_enter Try.func73, Try.ntmps73
    go_wp2
    refine wp_loop_rounds 1 ?_
    rw [rounds_succ]
    go_wp2
    all_goals
      go_ret
      exact ⟨by simp; omega, rfl⟩
  · have hb : (decide (n < 0) || decide (most < n)) = false := by simp; omega
    by_cases h2 : k < 0 ∨ most < k
    · have hb2 : (decide (k < 0) || decide (most < k)) = true := by simpa using h2
      go_enter Try.func73, Try.ntmps73
      go_wp2
      refine wp_loop_rounds 2 ?_
      rw [rounds_succ]
      go_wp2
      rw [rounds_succ]
      go_wp2
      all_goals
        go_ret
        exact ⟨by simp; omega, rfl⟩
    · have hb2 : (decide (k < 0) || decide (most < k)) = false := by simp; omega
      go_enter Try.func73, Try.ntmps73
      go_wp2
      refine wp_loop_rounds 3 ?_
      rw [rounds_succ]
      go_wp2
      rw [rounds_succ]
      go_wp2
      rw [rounds_succ]
      go_wp2
      go_ret
      exact ⟨by simp; omega, rfl⟩
theorem isUsed_any (w : World) (b o : Nat) (v : Int) (hc : w.cell? ⟨b, o, none⟩ = some (.int .i64 v)) :
    Calls Try.prog 103 #[.pointer (some ⟨b, o, none⟩)] w fun e w' => e = .returned (.bool (decide (0 < v))) ∧ w = w' := by
  go_enter Try.func103, Try.ntmps103
  go_wp2
  go_ret
  exact ⟨rfl, rfl⟩

/-- Is a number that of a frame in use? -/
def Mm.isUsed (M : Mm) (a : Int) : Bool := decide (0 ≤ a ∧ a < M.n ∧ 0 < M.R a.toNat)

theorem used_nil (w : World) (a : Int) : Calls Try.prog 72 #[.pointer none, .int .i64 a] w fun e w' => e = .returned (.tuple #[.pointer none, .int .i64 1]) ∧ w = w' := by
  go_enter Try.func72, Try.ntmps72
  go_wp2
  go_ret2
  exact ⟨rfl, rfl⟩
set_option maxHeartbeats 800000 in
theorem used_bad {w : World} {f fb : Nat} {M : Mm} (h : MemAt w f fb M) (a : Int) (ha : M.isUsed a = false) :
    Calls Try.prog 72 #[.pointer (some ⟨f, 0, none⟩), .int .i64 a] w fun e w' => e = .returned (.tuple #[.pointer none, .int .i64 10]) ∧ Same (fun _ => False) w w' := by
  have h1 := h.n1
  have h2 := h.n2
  have hf0 := h.f0
  have hlf := h.lt.1
  have hlb := h.lt.2
  have ha' : ¬ (0 ≤ a ∧ a < M.n ∧ 0 < M.R a.toNat) := of_decide_eq_false ha
  have H := Lib.hid h
  clear h ha
  by_cases hin : 0 ≤ a ∧ a ≤ (M.n : Int) - 1
  · obtain ⟨k, rfl⟩ := Int.eq_ofNat_of_zero_le hin.1
    have hk : k < M.n := by omega
    have hki : (k : Int) < M.n := by omega
    have hc := H.out.rc k hk
    have hz : decide (0 < M.R k) = false := by
      rw [Int.toNat_natCast] at ha'
      simp; omega
    have hd : decide (0 ≤ (k : Int) ∧ (k : Int) ≤ (M.n : Int) - 1) = true := by simpa using hin
    clear ha' hin
    go_enter Try.func72, Try.ntmps72
    go_wp2_with fail
    refine (within1 _ _ _ (k : Int) (by simp)).mono ?_
    rintro e w' ⟨rfl, rfl⟩
    rw [hd]
    have hc' := (same_alloc (.cells #[.int .i64 k] 3)).cell hc (by simp)
    go_wp2_with fail
    refine (isUsed_any _ _ _ _ hc').mono ?_
    rintro e w' ⟨rfl, rfl⟩
    rw [hz]
    go_wp2
    go_ret2
    exact ⟨rfl, same_alloc _⟩
  · have hd : decide (0 ≤ a ∧ a ≤ (M.n : Int) - 1) = false := decide_eq_false hin
    clear hin ha'
    go_enter Try.func72, Try.ntmps72
    go_wp2_with fail
    refine (within1 _ _ _ a (by simp)).mono ?_
    rintro e w' ⟨rfl, rfl⟩
    rw [hd]
    go_wp2
    go_ret2
    exact ⟨rfl, same_alloc _⟩
set_option maxHeartbeats 800000 in
theorem used_ok {w : World} {f fb : Nat} {M : Mm} (h : MemAt w f fb M) (k : Nat) (hk : k < M.n) (hz0 : 0 < M.R k) :
    Calls Try.prog 72 #[.pointer (some ⟨f, 0, none⟩), .int .i64 k] w fun e w' => e = .returned (.tuple #[.pointer (some ⟨fb, k * 65, none⟩), .int .i64 0]) ∧ Same (fun _ => False) w w' := by
  have h1 := h.n1
  have h2 := h.n2
  have hf0 := h.f0
  have hlf := h.lt.1
  have hlb := h.lt.2
  have H := Lib.hid h
  clear h
  have hki : (k : Int) < M.n := by omega
  have hc := H.out.rc k hk
  have hz : decide (0 < M.R k) = true := by simpa using hz0
  have hd : decide (0 ≤ (k : Int) ∧ (k : Int) ≤ (M.n : Int) - 1) = true := by simp; omega
  clear hz0
  go_enter Try.func72, Try.ntmps72
  go_wp2_with fail
  refine (within1 _ _ _ (k : Int) (by simp)).mono ?_
  rintro e w' ⟨rfl, rfl⟩
  rw [hd]
  have hc' := (same_alloc (.cells #[.int .i64 k] 3)).cell hc (by simp)
  go_wp2_with fail
  refine (isUsed_any _ _ _ _ hc').mono ?_
  rintro e w' ⟨rfl, rfl⟩
  rw [hz]
  go_wp2
  go_ret2
  exact ⟨rfl, same_alloc _⟩
end Go.Proofs.Ytlbgnmcjdmdjpaa
