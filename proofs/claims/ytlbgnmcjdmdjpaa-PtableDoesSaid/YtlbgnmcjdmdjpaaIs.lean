/- The reference's comparison of two lists of ints that read alike. Conditions: that they do. -/
import Derived.Test.YtlbgnmcjdmdjpaaAc
namespace Go.Proofs.Ytlbgnmcjdmdjpaa
open Go.RowKit Go.Shelf
attribute [local go_sem] Oper.semAt_some

/-- A slice that reads as a list of numbers. -/
def IntsAt (w : World) (v : Value) (l : List Nat) : Prop := (v = .slice none 0 0 ∧ l = []) ∨ ∃ g cap, v = .slice (some ⟨g, 0, none⟩) l.length cap ∧ l.length ≤ 1000 ∧ ∀ i (h : i < l.length), w.cell? ⟨g, i, none⟩ = some (.int .i64 (l[i] : Int))
theorem IntsAt.same {w w' : World} {v : Value} {l : List Nat} {S : Nat → Prop} (h : IntsAt w v l) (hs : Same S w w') (hv : ∀ g, v.ownBlock = some g → ¬ S g) : IntsAt w' v l := by
  rcases h with h | ⟨g, cap, rfl, h1, h2⟩
  · exact .inl h
  · exact .inr ⟨g, cap, rfl, h1, fun i hi => hs.cell (h2 i hi) (hv g rfl)⟩
theorem intsAt_of {w : World} {b : Nat} {v : Value} {l : List Nat} (h : w.ownsRow b 3 1 v l.length (ints l)) (hl : l.length ≤ 1000) : IntsAt w v l := by
  rcases h.2 with ⟨rfl, h0⟩ | ⟨g, cap, cur, rfl, _⟩
  · exact .inl ⟨rfl, List.eq_nil_of_length_eq_zero h0⟩
  · refine .inr ⟨g, cap, rfl, hl, fun i hi => ?_⟩
    have := h.cells (g := g) rfl i (.int .i64 (l[i] : Int)) (by unfold ints; rw [List.getElem?_map, List.getElem?_eq_getElem hi]; rfl)
    have e : (⟨g, 0, none⟩ : Addr).add i = ⟨g, i, none⟩ := by unfold Addr.add; by_cases h : i = 0 <;> simp [h]
    rwa [e] at this
theorem IntsAt.lt {w : World} {v : Value} {l : List Nat} (h : IntsAt w v l) {g : Nat} (hg : v.ownBlock = some g) (hne : l ≠ []) : g < w.heap.size := by
  rcases h with ⟨rfl, _⟩ | ⟨g', cap, rfl, h1, h2⟩
  · cases hg
  · simp only [Value.ownBlock, Option.some.injEq] at hg
    subst hg
    have hl : 0 < l.length := List.length_pos_iff.2 hne
    exact World.block_lt_of_cell? _ _ (h2 0 hl)

set_option maxHeartbeats 800000 in
theorem ints_same {w : World} {v v' : Value} {l : List Nat} (h : IntsAt w v l) (h' : IntsAt w v' l) :
    Calls Try.prog 25 #[v, v'] w fun e w' => e = .returned (.bool true) ∧ Same (fun _ => False) w w' := by
  rcases h with ⟨rfl, hl⟩ | ⟨g, cap, rfl, h1, h2⟩
  · subst hl
    rcases h' with ⟨rfl, _⟩ | ⟨g', cap', rfl, h1', h2'⟩
    all_goals
      go_enter Try.func25, Try.ntmps25
      go_wp2
      refine wp_loop_rounds 1 ?_
      rw [rounds_succ]
      go_wp2
      go_ret
      exact ⟨rfl, Same.refl _ _⟩
  · rcases h' with ⟨rfl, hl⟩ | ⟨g', cap', rfl, h1', h2'⟩
    · subst hl
      go_enter Try.func25, Try.ntmps25
      go_wp2
      refine wp_loop_rounds 1 ?_
      rw [rounds_succ]
      go_wp2
      go_ret
      exact ⟨rfl, Same.refl _ _⟩
    · have H2 := Lib.hid h2
      have H2' := Lib.hid h2'
      clear h2 h2' h1'
      go_enter Try.func25, Try.ntmps25
      go_wp2
      go_loopw [5] (fun v5 wr => ∃ i : Nat, i ≤ l.length ∧ v5 = .int .i64 i ∧ Same (fun _ => False) w wr) (fun v5 _ => l.length - (intOf v5).toNat)
      case atStart => exact ⟨0, by omega, rfl, Same.refl _ _⟩
      case round =>
        obtain ⟨i, hi, rfl, hs⟩ := hrel
        by_cases hlt : i < l.length
        · have c1 := hs.cell (H2.out i hlt) (by simp)
          have c2 := hs.cell (H2'.out i hlt) (by simp)
          have hlt' : (i : Int) < l.length := by omega
          go_wp2_with fail
          go_quiet (fail)
          go_wp2
          go_round
          case rel => exact ⟨i + 1, by omega, by go_num, hs.drewN _⟩
          case measure => simp [intOf]; omega
        · obtain rfl : i = l.length := by omega
          go_wp2
          go_ret
          exact ⟨rfl, hs⟩

theorem pages_is {w : World} {f fb : Nat} {M : Mm} (h : MemAt w f fb M) (root : Int) (hc : M.check root 0 = 0) :
    Calls Try.prog 22 #[.pointer (some ⟨f, 0, none⟩), .int .i64 root] w fun e w' => ∃ a cap, e = .returned (.tuple #[.slice a (M.pages root).length cap, .int .i64 0]) ∧
      IntsAt w' (.slice a (M.pages root).length cap) (M.pages root) ∧ (∀ g, (Value.slice a (M.pages root).length cap).ownBlock = some g → w.heap.size ≤ g) ∧ Same (fun _ => False) w w' := by
  refine (pages_ok h root hc).mono ?_
  rintro e w' ⟨v, rfl, ho, hs⟩
  rw [Mm.pages_eq] at ho
  have hl := M.pages_len root
  have hI := intsAt_of ho (by omega)
  rcases ho.2 with ⟨rfl, h0⟩ | ⟨g, cap, cur, rfl, hb, _⟩
  · exact ⟨none, 0, by rw [h0], by rw [h0]; exact hI, by simp [Value.ownBlock], hs⟩
  · exact ⟨_, cap, rfl, hI, fun g' hg => by simp only [Value.ownBlock, Option.some.injEq] at hg; omega, hs⟩
end Go.Proofs.Ytlbgnmcjdmdjpaa
