/- A memory of sixty frames with pages mapped, each to a frame of its own: the plain law. Conditions: none. -/
import Derived.Test.YtlbgnmcjdmdjpaaCpF
namespace Go.Proofs.Ytlbgnmcjdmdjpaa
open Go.RowKit

theorem Mm.Tree.alloc {M : Mm} {r : Nat} {T : Nat → Option Nat} {cu : Nat} (h : M.Tree r T cu) {k : Nat} (hk : k < M.n) (hz : M.R k ≤ 0) : (M.alloc k).Tree r T (cu + 1) := by
  have hkr : k ≠ r := by intro e; subst e; have := h.rR; omega
  have hkT : ∀ x y, T x = some y → y ≠ k := by intro x y hx e; subst e; have := (h.tb _ _ hx).2.2.2; omega
  have E : ∀ x y, x ≠ k → (M.alloc k).ent x y = M.ent x y := fun x y hx => by rw [Mm.alloc_ent, if_neg hx]
  have R1 : ∀ x, (M.alloc k).R x = if x = k then 1 else M.R x := fun x => rfl
  refine ⟨h.n2, h.rn, by rw [R1, if_neg (Ne.symm hkr)]; exact h.rR, fun i y hy => ?_, h.inj, fun i hi hn => by rw [E _ _ (Ne.symm hkr)]; exact h.top0 i hi hn, fun i y hy => by rw [E _ _ (Ne.symm hkr)]; exact h.top1 i y hy,
    fun i y j hy hj => by rw [E _ _ (hkT i y hy)]; exact h.low i y j hy hj, fun i y hy => ?_, ?_⟩
  · obtain ⟨a, b, c, d⟩ := h.tb i y hy
    exact ⟨a, b, c, by rw [R1, if_neg (hkT i y hy)]; exact d⟩
  · obtain ⟨j, hj, hj2⟩ := h.ne i y hy
    exact ⟨j, hj, by rw [E _ _ (hkT i y hy)]; exact hj2⟩
  · have b1 := nfree_take (R := M.R) (R' := (M.alloc k).R) (n := M.n) hk (by omega) (by rw [R1, if_pos rfl]; decide) (fun x hx => by rw [R1, if_neg hx])
    have c := h.cnt
    show nfree (M.alloc k).R M.n + (cu + 1) + tcnt T 16 = M.n
    omega
theorem Mm.Tree.alloc_lk {M : Mm} {r : Nat} {T : Nat → Option Nat} {cu : Nat} (h : M.Tree r T cu) {k : Nat} (hk : k < M.n) (hz : M.R k ≤ 0) {p : Nat} (hp : p < 256) : (M.alloc k).lk r p = M.lk r p := by
  rw [Mm.lk_tree (h.alloc hk hz) hp, Mm.lk_tree h hp]
  cases hT : T (p / 16) with
  | none => rfl
  | some y =>
    have : y ≠ k := by intro e; subst e; have := (h.tb _ _ hT).2.2.2; omega
    simp only
    rw [Mm.alloc_ent, if_neg this]
theorem Mm.Tree.alloc_walk {M : Mm} {r : Nat} {T : Nat → Option Nat} {cu : Nat} (h : M.Tree r T cu) {k : Nat} (hk : k < M.n) (hz : M.R k ≤ 0) (p : Int) : (M.alloc k).walk r p = M.walk r p := by
  by_cases hp : 0 ≤ p ∧ p ≤ 255
  · obtain ⟨q, rfl⟩ := Int.eq_ofNat_of_zero_le hp.1
    rw [h.walk (p := q) (by omega), (h.alloc hk hz).walk (p := q) (by omega), h.alloc_lk hk hz (by omega)]
  · rw [h.walk_out hp, (h.alloc hk hz).walk_out hp]
theorem nfree_zero {R : Nat → Int} : ∀ n : Nat, (∀ i, i < n → 0 < R i) → nfree R n = 0
  | 0, _ => rfl
  | n + 1, h => by simp only [nfree, nfree_zero n (fun i hi => h i (by omega))]; rw [if_pos (h n (by omega))]
theorem tcnt_le (T : Nat → Option Nat) : ∀ n, tcnt T n ≤ n
  | 0 => Nat.le_refl _
  | n + 1 => by simp only [tcnt]; have := tcnt_le T n; split <;> omega
/-- One page more, of a frame of its own. -/
def Mm.lay (M : Mm) (p : Int) (ro : Bool) : Mm := match M.least with
  | none => M
  | some k => ((M.alloc k).map 0 p k (if ro then 1 else 3)).1
/-- Behind i pages. -/
def laidN (g : Nat → Int × Bool) : Nat → Mm
  | 0 => (Mm.mk 60 (fun _ => 0) (fun _ _ => 0)).alloc 0
  | i + 1 => (laidN g i).lay (g i).1 (g i).2
/-- The pages' flags. -/
def Mm.Flags (M : Mm) : Prop := ∀ p : Int, (M.walk 0 p).2.2 = 0 → (M.walk 0 p).2.1 = 1 ∨ (M.walk 0 p).2.1 = 3
structure Mm.Laid (M : Mm) (cu : Nat) : Prop where
  ex : ∃ T, M.Tree 0 T cu ∧ M.Data 0 T
  n : M.n = 60
  fl : M.Flags
theorem Mm.Laid.room {M : Mm} {cu : Nat} (h : M.Laid cu) (hc : cu ≤ 40) : ¬ ∀ i, i < M.n → 0 < M.R i := by
  intro hall
  obtain ⟨T, ht, _⟩ := h.ex
  have c := ht.cnt
  rw [nfree_zero _ hall] at c
  have := tcnt_le T 16
  have := h.n
  omega
theorem Mm.Laid.zero : ((Mm.mk 60 (fun _ => 0) (fun _ _ => 0)).alloc 0).Laid 1 := by
  have ht := Mm.tree_new 60 (by omega) (by omega)
  have hw : ∀ p : Int, (((Mm.mk 60 (fun _ => 0) (fun _ _ => 0)).alloc 0).walk (0 : Nat) p).2.2 ≠ 0 := by
    intro p
    by_cases hp : 0 ≤ p ∧ p ≤ 255
    · obtain ⟨q, rfl⟩ := Int.eq_ofNat_of_zero_le hp.1
      rw [ht.walk (p := q) (by omega), Mm.lk_tree ht (by omega)]
      simp
    · rw [ht.walk_out hp]; decide
  exact ⟨⟨_, ht, ⟨fun p hp => absurd hp (hw p), fun p q hp => absurd hp (hw p)⟩⟩, rfl, fun p hp => absurd hp (hw p)⟩
theorem Mm.Laid.step {M : Mm} {cu : Nat} (h : M.Laid cu) {k : Nat} (hl : M.least = some k) (p : Int) (ro : Bool) : (M.lay p ro).Laid (cu + 1) ∧ M.lay p ro = ((M.alloc k).map 0 p k (if ro then 1 else 3)).1 := by
  have he : M.lay p ro = ((M.alloc k).map 0 p k (if ro then 1 else 3)).1 := by unfold Mm.lay; rw [hl]
  refine ⟨?_, he⟩
  rw [he]
  obtain ⟨T, ht, hd⟩ := h.ex
  obtain ⟨hk, hz, _⟩ := Mm.least_spec hl
  have ht1 := ht.alloc hk hz
  have hw1 : ∀ p : Int, (M.alloc k).walk (0 : Nat) p = M.walk (0 : Nat) p := fun p => ht.alloc_walk hk hz p
  have hT1 : ∀ i y, T i = some y → y ≠ k := by intro x y hx e; subst e; have := (ht.tb _ _ hx).2.2.2; omega
  have R1 : ∀ x, (M.alloc k).R x = if x = k then 1 else M.R x := fun x => rfl
  have hd1 : (M.alloc k).Data 0 T := by
    refine ⟨fun q hq => ?_, fun q q' => by rw [hw1, hw1]; exact hd.inj q q'⟩
    rw [hw1] at hq ⊢
    obtain ⟨y, h1, h2, h3, h4, h5⟩ := hd.fr q hq
    exact ⟨y, h1, h2, by rw [R1]; split <;> omega, h4, h5⟩
  have hk0 : k ≠ 0 := by intro e; subst e; have := ht.rR; omega
  generalize hfl : (if ro = true then (1 : Int) else 3) = fl
  have hfl2 : fl = 1 ∨ fl = 3 := by cases ro <;> simp at hfl <;> omega
  have hn60 : (M.alloc k).n = 60 := h.n
  have hfl1 : (M.alloc k).Flags := by
    intro q hq
    have := hw1 q
    rw [show ((0 : Nat) : Int) = 0 from rfl] at this
    rw [this] at hq ⊢
    exact h.fl q hq
  have hml := Mm.map_law ht1 p (k : Int) fl
  have hrk : (M.alloc k).R k = 1 := by rw [R1, if_pos rfl]
  have hold : ∀ q : Int, ((M.alloc k).walk (0 : Nat) q).2.2 = 0 → ((M.alloc k).walk (0 : Nat) q).1 ≠ k := by
    intro q hq e
    rw [hw1] at hq e
    obtain ⟨y, h1, h2, h3, _⟩ := hd.fr q hq
    have : y = k := by omega
    subst this
    omega
  rw [show ((0 : Nat) : Int) = 0 from rfl] at hml
  rcases hml with ⟨_, h2⟩ | ⟨_, x, rfl, hx, hf0, hlk0, ⟨T', ht', hkp⟩, hn', hlk, hoth⟩
  · rw [h2]
    exact ⟨⟨T, ht1, hd1⟩, hn60, hfl1⟩
  · generalize (M.alloc k).map 0 (x : Int) (k : Int) fl = MM at *
    have hwx : MM.1.walk (0 : Nat) (x : Int) = ((k : Int), fl, 0) := by
      rw [ht'.walk hx]
      rw [show ((0 : Nat) : Int) = 0 from rfl, hlk, if_neg hf0]
    have hwo : ∀ q : Int, q ≠ x → MM.1.walk (0 : Nat) q = (M.alloc k).walk (0 : Nat) q := by
      intro q hq
      by_cases hr : 0 ≤ q ∧ q ≤ 255
      · obtain ⟨y, rfl⟩ := Int.eq_ofNat_of_zero_le hr.1
        have := hoth y (by omega) (by omega)
        rw [ht'.walk (p := y) (by omega), ht1.walk (p := y) (by omega), show ((0 : Nat) : Int) = 0 from rfl, this]
      · rw [ht'.walk_out hr, ht1.walk_out hr]
    have hkT' : ∀ i, T' i ≠ some k := by
      intro i hi
      rcases hkp.keepT i k hi with h | h
      · exact hT1 i k h rfl
      · rw [hrk] at h; exact h (by decide)
    refine ⟨⟨T', ht', ⟨fun q hq => ?_, fun q q' hq hq' hqq => ?_⟩⟩, hn'.trans hn60, fun q hq => ?_⟩
    · by_cases e : q = x
      · subst e
        rw [hwx]
        exact ⟨k, rfl, by rw [hn']; exact hk, by rw [hkp.keepR k (by rw [hrk]; decide) (fun i hi => hT1 i k hi rfl), hrk]; decide, hk0, hkT'⟩
      · rw [hwo q e] at hq ⊢
        obtain ⟨y, h1, h2, h3, h4, h5⟩ := hd1.fr q hq
        refine ⟨y, h1, by rw [hn']; exact h2, by rw [hkp.keepR y h3 h5]; exact h3, h4, fun i hi => ?_⟩
        rcases hkp.keepT i y hi with h | h
        · exact h5 i h
        · exact h h3
    · by_cases e : q = x <;> by_cases e' : q' = x
      · omega
      · exfalso
        subst e
        rw [hwx, hwo q' e'] at hqq
        rw [hwo q' e'] at hq'
        exact hold q' hq' hqq.symm
      · exfalso
        subst e'
        rw [hwx, hwo q e] at hqq
        rw [hwo q e] at hq
        exact hold q hq hqq
      · rw [hwo q e] at hq hqq
        rw [hwo q' e'] at hq' hqq
        exact hd1.inj q q' hq hq' hqq
    · by_cases e : q = x
      · subst e
        rw [show ((0 : Nat) : Int) = 0 from rfl] at hwx
        rw [hwx]
        exact hfl2
      · have := hwo q e
        rw [show ((0 : Nat) : Int) = 0 from rfl] at this
        rw [this] at hq ⊢
        exact hfl1 q hq
end Go.Proofs.Ytlbgnmcjdmdjpaa
