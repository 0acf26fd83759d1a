import Derived.Test.YtlbgnmcjdmdjpaaB
import Derived.Deep.MidRow
import Derived.Stop.BytesEq
namespace Go.Proofs.Ytlbgnmcjdmdjpaa
open Go.RowKit Go.Shelf
attribute [local go_sem] Oper.semAt_some

theorem unused_any (w : World) (p : Option Addr) :
    Calls Try.prog 60 #[.pointer p] w fun e w' => e = .returned (.func (.func 102) #[] #[.pointer (some ⟨w.heap.size, 0, none⟩)]) ∧ w' = w.alloc (.cells #[.pointer p] 24) := by
  go_enter Try.func60, Try.ntmps60
  go_wp2
  go_ret
  exact ⟨rfl, rfl⟩

/-- The frames below i that nobody has: how many. -/
def nfree (R : Nat → Int) : Nat → Nat
  | 0 => 0
  | i + 1 => nfree R i + if 0 < R i then 0 else 1
theorem nfree_le (R : Nat → Int) (i : Nat) : nfree R i ≤ i := by
  induction i with
  | zero => exact Nat.le_refl _
  | succ i ih => simp only [nfree]; split <;> omega

set_option maxHeartbeats 800000 in
theorem left_any {w : World} {f fb : Nat} {M : Mm} (h : MemAt w f fb M) :
    Calls Try.prog 23 #[.pointer (some ⟨f, 0, none⟩)] w fun e w' => e = .returned (.int .i64 (nfree M.R M.n)) ∧ Same (fun _ => False) w w' := by
  have hn2 := h.n2
  have hlt := h.lt
  have H := Lib.hid h
  clear h
  refine (callsIn_wide (n := 0)).1 ?_
  refine callsIn_of_wp_marks Try.func23 rfl trivial ?_ rfl
  simp only [Try.ntmps23, List.size_toArray, List.length_cons, List.length_nil, Nat.reduceAdd, Nat.reduceSub, Array.replicate_succ, Array.replicate_zero, List.push_toArray, List.append_toArray, List.nil_append, List.cons_append]
  gi_wp2_with (gi_at_call 60; refine CallsIn.mono (callsIn_wide.2 (unused_any _ _)) ?_; rintro e w' ⟨rfl, rfl⟩)
  refine range_wide (gf := 102) (lb := #[.pointer (some ⟨w.heap.size + 1, 0, none⟩)]) rfl (enters_of Try.func102 (by kernel_rfl) rfl) ?_
  intro rec D L W1 hD hL hrule hs1 hl1 hd1 _
  simp only [World.size_alloc, World.size_setCell] at hD
  have hc0 : W1.cell? ⟨w.heap.size, 0, none⟩ = some (.int .i64 0) := hs1.cell (by simp [go_sem]) (by simp)
  have hf0 : W1.frozen? ⟨w.heap.size, 0, none⟩ = false := (hs1.frozen (by simp; omega) (by simp)).trans (by simp [go_sem])
  have hb0 : W1.cell? ⟨w.heap.size + 1, 0, none⟩ = some (.pointer (some ⟨f, 0, none⟩)) := hs1.cell (by simp [go_sem]) (by simp)
  have hs2 : Same (fun k => w.heap.size ≤ k) w W1 := (((Same.refl _ w).alloc _).alloc _).trans (hs1.mono (by simp))
  refine Calls.mono (unused1 L (w.heap.size + 1) f fb M.n M.R (fun i W => W.cell? ⟨w.heap.size, 0, none⟩ = some (.int .i64 (nfree M.R i)) ∧ W.frozen? ⟨w.heap.size, 0, none⟩ = false ∧
      W.cell? ⟨w.heap.size + 1, 0, none⟩ = some (.pointer (some ⟨f, 0, none⟩)) ∧ Same (fun k => w.heap.size ≤ k) w W ∧ W.heap[L]? = some (rec .ready none) ∧ W.heap[D]? = some (.deferred (some [])))
    (fun W => False) ⟨H.out.n1, hn2⟩ ?_ ?_ ?_ W1 ⟨hc0, hf0, hb0, hs2, hl1, hd1⟩) ?_
  · rintro i W hi ⟨h1, h2, h3, h4, h5, h6⟩
    exact ⟨h4.cell (H.out.rc i hi) (by simp; omega), h4.cell H.out.f0 (by simp; omega), h3⟩
  · rintro i W hi ⟨h1, h2, h3, h4, h5, h6⟩ hz
    exact ⟨by simp only [nfree]; rw [if_pos hz]; exact h1, h2, h3, h4, h5, h6⟩
  · rintro i W hi ⟨h1, h2, h3, h4, h5, h6⟩ hz
    have hnf := nfree_le M.R i
    refine hrule W _ _ h5 rfl ?_
    gi_wp2
    intro W2 hs2 hz2 hl2
    have hc2 := hs2.cell h1 (by simp; omega)
    have hf2 := hs2.unfrozen h1 h2 (by simp; omega)
    have hb2 := hs2.cell h3 (by simp; omega)
    have hd2 := hs2.block h6 (by omega)
    have hs3 := h4.trans (hs2.mono (fun k _ e => by omega))
    gi_wp2
    have hs5 : Same (fun k => w.heap.size ≤ k) W2 (W2.setCell ⟨w.heap.size, 0, none⟩ (.int .i64 (↑(nfree M.R i) + 1))) := (Same.refl _ _).setCell _ (.inr (Nat.le_refl _))
    have hs6 : Same (· = w.heap.size) W2 (W2.setCell ⟨w.heap.size, 0, none⟩ (.int .i64 (↑(nfree M.R i) + 1))) := (Same.refl _ _).setCell _ (.inr rfl)
    refine ⟨hs6.block hl2 (by omega), fun W3 hs4 _ hl4 => ⟨rfl, ?_, ?_, hs4.cell (hs6.cell hb2 (by simp)) (by simp; omega),
        (hs3.trans hs5).trans (hs4.mono (fun k _ e => by omega)), hl4, hs4.block (hs6.block hd2 (by omega)) (by omega)⟩⟩
    · simp only [nfree]; rw [if_neg (by omega)]
      exact hs4.cell (World.cell?_setCell_same _ _ _ hc2) (by simp; omega)
    · exact (hs4.unfrozen (World.cell?_setCell_same _ _ _ hc2) (by simpa using hf2) (by simp; omega))
  · rintro e W ⟨⟨v, rfl⟩, ⟨h1, h2, h3, h4, h5, h6⟩ | hf⟩
    · refine ⟨⟨_, rfl⟩, .inl ⟨h5, fun W2 hs2 _ => ?_⟩⟩
      have hc2 := hs2.cell h1 (by simp; omega)
      have hd2 := hs2.block h6 (by omega)
      have hs3 := h4.trans (hs2.mono (fun k _ e => by omega))
      gi_wp2
      refine leaves_mark hd2 fun W3 hs4 _ => ⟨results_tmp rfl _ _ _, ?_⟩
      exact ⟨rfl, (hs3.trans (hs4.mono (fun k _ e => by omega))).mono (fun k h h' => by omega)⟩
    · exact hf.elim
theorem left_nil (w : World) : Calls Try.prog 23 #[.pointer none] w fun e w' => e = .returned (.int .i64 0) ∧ Same (fun _ => False) w w' := by
  refine (callsIn_wide (n := 0)).1 ?_
  refine callsIn_of_wp_marks Try.func23 rfl trivial ?_ rfl
  simp only [Try.ntmps23, List.size_toArray, List.length_cons, List.length_nil, Nat.reduceAdd, Nat.reduceSub, Array.replicate_succ, Array.replicate_zero, List.push_toArray, List.append_toArray, List.nil_append, List.cons_append]
  gi_wp2
  refine leaves_nil (results_tmp rfl _ _ _) ⟨rfl, ?_⟩
  exact ((Same.refl _ _).alloc _)
end Go.Proofs.Ytlbgnmcjdmdjpaa
