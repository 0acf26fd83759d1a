/- A row of acts, each of four ints; the law of two pages apart. Conditions: none. -/
import Derived.Test.YtlbgnmcjdmdjpaaPg
import Derived.Test.YtlbgnmcjdmdjpaaOq
import Derived.StillTailTactics
namespace Go.Proofs.Ytlbgnmcjdmdjpaa
open Go.RowKit Go.Shelf

/-- A row of acts: each four ints. -/
def ActsAt (w : World) (a : Option Addr) (len : Nat) : Prop :=
  ∀ x, a = some x → ∀ i, i < len → ∀ j, j < 4 → ∃ K : Int, w.cell? (x.add (i * 4 + j)) = some (.int .i64 K) ∧ (Lit.int .i64 K).wf = true
/-- One act's four cells, as a load spells them. -/
structure ActAt (w : World) (b : Addr) (d p q K : Int) : Prop where
  c0 : w.cell? b = some (.int .i64 d)
  c1 : w.cell? ⟨b.block, b.off + 1, none⟩ = some (.int .i64 p)
  c2 : w.cell? ⟨b.block, b.off + 2, none⟩ = some (.int .i64 q)
  c3 : w.cell? ⟨b.block, b.off + 3, none⟩ = some (.int .i64 K)
theorem add_add2 (a : Addr) (n k : Nat) : (a.add n).add k = a.add (n + k) := by
  unfold Addr.add
  by_cases h1 : n = 0 <;> by_cases h2 : k = 0 <;> simp [h1, h2, Nat.add_assoc]
theorem ActsAt.act {w : World} {a : Option Addr} {len : Nat} (h : ActsAt w a len) {x : Addr} (hx : a = some x) {i : Nat} (hi : i < len) : ∃ d p q K, ActAt w (x.add (i * 4)) d p q K ∧ In64 p := by
  obtain ⟨d, h0, _⟩ := h x hx i hi 0 (by decide)
  obtain ⟨p, h1, hp⟩ := h x hx i hi 1 (by decide)
  obtain ⟨q, h2, _⟩ := h x hx i hi 2 (by decide)
  obtain ⟨K, h3, _⟩ := h x hx i hi 3 (by decide)
  rw [← add_add2] at h1 h2 h3
  exact ⟨d, p, q, K, ⟨h0, h1, h2, h3⟩, in64 hp⟩
theorem ActAt.kept {w w' : World} {S : Nat → Prop} {b : Addr} {d p q K : Int} (h : ActAt w b d p q K) (hs : Same S w w') (hb : ¬ S b.block) : ActAt w' b d p q K :=
  ⟨hs.cell h.c0 hb, hs.cell h.c1 hb, hs.cell h.c2 hb, hs.cell h.c3 hb⟩
theorem ActAt.lt {w : World} {b : Addr} {d p q K : Int} (h : ActAt w b d p q K) : b.block < w.heap.size := World.block_lt_of_cell? _ _ h.c0

theorem Mm.map_tree {M : Mm} {r : Nat} {T : Nat → Option Nat} {cu : Nat} (h : M.Tree r T cu) (page frame flags : Int) : ∃ T', (M.map r page frame flags).1.Tree r T' cu ∧ (M.map r page frame flags).1.n = M.n := by
  rcases Mm.map_law h page frame flags with ⟨_, h2⟩ | ⟨_, p, _, _, _, _, ⟨T', h3, _⟩, h4, _⟩
  · rw [h2]; exact ⟨T, h, rfl⟩
  · exact ⟨T', h3, h4⟩
theorem Mm.unmap_tree {M : Mm} {r : Nat} {T : Nat → Option Nat} {cu : Nat} (h : M.Tree r T cu) (page : Int) : ∃ T', (M.unmap r page).1.Tree r T' cu ∧ (M.unmap r page).1.n = M.n := by
  rcases Mm.unmap_law h page with ⟨_, h2, _⟩ | ⟨_, p, _, _, _, _, ⟨T', h3, _⟩, h4, _⟩
  · rw [h2]; exact ⟨T, h, rfl⟩
  · exact ⟨T', h3, h4⟩
theorem Mm.map_walk_other {M : Mm} {r : Nat} {T : Nat → Option Nat} {cu : Nat} (h : M.Tree r T cu) (page frame flags other : Int) (hne : page ≠ other) : (M.map r page frame flags).1.walk r other = M.walk r other := by
  rcases Mm.map_law h page frame flags with ⟨_, h2⟩ | ⟨_, p, rfl, hp, _, _, ⟨T', h3, _⟩, h4, h5, h6⟩
  · rw [h2]
  · by_cases ho : 0 ≤ other ∧ other ≤ 255
    · obtain ⟨q, rfl⟩ := Int.eq_ofNat_of_zero_le ho.1
      rw [h.walk (p := q) (by omega), h3.walk (p := q) (by omega), h6 q (by omega) (by omega)]
    · rw [h.walk_out ho, h3.walk_out ho]
theorem Mm.unmap_walk_other {M : Mm} {r : Nat} {T : Nat → Option Nat} {cu : Nat} (h : M.Tree r T cu) (page other : Int) (hne : page ≠ other) : (M.unmap r page).1.walk r other = M.walk r other := by
  rcases Mm.unmap_law h page with ⟨_, h2, _⟩ | ⟨_, p, rfl, hp, _, _, ⟨T', h3, _⟩, h4, h5, h6⟩
  · rw [h2]
  · by_cases ho : 0 ≤ other ∧ other ≤ 255
    · obtain ⟨q, rfl⟩ := Int.eq_ofNat_of_zero_le ho.1
      rw [h.walk (p := q) (by omega), h3.walk (p := q) (by omega), h6 q (by omega) (by omega)]
    · rw [h.walk_out ho, h3.walk_out ho]
theorem Mm.map_walk_same {M : Mm} {r : Nat} {T : Nat → Option Nat} {cu : Nat} (h : M.Tree r T cu) (page frame flags : Int) : (M.map r page frame flags).2 ≠ 0 ∨ ((M.map r page frame flags).2 = 0 ∧ (M.map r page frame flags).1.walk r page = (frame, flags, 0)) := by
  rcases Mm.map_law h page frame flags with ⟨h1, _⟩ | ⟨h1, p, rfl, hp, hfl, _, ⟨T', h3, _⟩, h4, h5, h6⟩
  · exact .inl h1
  · right
    refine ⟨h1, ?_⟩
    rw [h3.walk hp, h5, if_neg hfl]
end Go.Proofs.Ytlbgnmcjdmdjpaa
