/- The plain law of page tables: mapping, unmapping, dropping, the list of pages. Conditions: none. -/
import Derived.Test.YtlbgnmcjdmdjpaaO
namespace Go.Proofs.Ytlbgnmcjdmdjpaa
/-! The plain law of a table of two levels in memory. -/
theorem Mm.ent_wr (M : Mm) (t i fl fr k j : Nat) (hfl : fl < 256) (hfr : fr < 65536) :
    (M.wr t (4 * i) ⟨#[UInt8.ofNat fl, 0, UInt8.ofNat (fr / 256), UInt8.ofNat fr]⟩).ent k j = if k = t ∧ j = i then ((fl : Int), (fr : Int)) else M.ent k j := by
  have hsz : (⟨#[UInt8.ofNat fl, 0, UInt8.ofNat (fr / 256), UInt8.ofNat fr]⟩ : ByteArray).size = 4 := rfl
  by_cases h : k = t ∧ j = i
  · obtain ⟨rfl, rfl⟩ := h
    rw [if_pos ⟨rfl, rfl⟩]
    simp only [Mm.ent, Mm.wr, hsz]
    rw [if_pos ⟨trivial, by omega, by omega⟩, if_pos ⟨trivial, by omega, by omega⟩, if_pos ⟨trivial, by omega, by omega⟩]
    rw [show 4 * j - 4 * j = 0 by omega, show 4 * j + 2 - 4 * j = 2 by omega, show 4 * j + 3 - 4 * j = 3 by omega]
    simp
    omega
  · rw [if_neg h]
    simp only [Mm.ent, Mm.wr, hsz]
    rw [if_neg (by omega), if_neg (by omega), if_neg (by omega)]
theorem Mm.put_R (M : Mm) (t : Int) (i fl fr : Nat) : (M.put t i fl fr).R = M.R := by unfold Mm.put; split <;> rfl
theorem Mm.put_n (M : Mm) (t : Int) (i fl fr : Nat) : (M.put t i fl fr).n = M.n := by unfold Mm.put; split <;> rfl
theorem Mm.put_B (M : Mm) (t : Nat) (i fl fr x o : Nat) (hx : x ≠ t) : (M.put t i fl fr).B x o = M.B x o := by
  unfold Mm.put
  split
  · simp only [Mm.wr, Int.toNat_natCast]; rw [if_neg (by omega)]
  · rfl
theorem Mm.isUsed_nat {M : Mm} {k : Nat} (hk : k < M.n) (h : 0 < M.R k) : M.isUsed k = true := by simp [Mm.isUsed]; omega
theorem Mm.put_ent {M : Mm} {t : Nat} (ht : t < M.n) (hR : 0 < M.R t) (i fl fr k j : Nat) (hfl : fl < 256) (hfr : fr < 65536) :
    (M.put t i fl fr).ent k j = if k = t ∧ j = i then ((fl : Int), (fr : Int)) else M.ent k j := by
  unfold Mm.put
  rw [if_pos (Mm.isUsed_nat ht hR)]
  exact Mm.ent_wr M t i fl fr k j hfl hfr
theorem Mm.alloc_ent (M : Mm) (a k j : Nat) : (M.alloc a).ent k j = if k = a then (0, 0) else M.ent k j := by
  unfold Mm.ent Mm.alloc
  by_cases h : k = a <;> simp [h]
theorem Mm.setR_ent (M : Mm) (a : Nat) (v : Int) (k j : Nat) : (M.setR a v).ent k j = M.ent k j := rfl
theorem nfree_congr {R R' : Nat → Int} : ∀ n : Nat, (∀ i, i < n → (0 < R i ↔ 0 < R' i)) → nfree R n = nfree R' n
  | 0, _ => rfl
  | n + 1, h => by
    simp only [nfree, nfree_congr n (fun i hi => h i (by omega))]
    by_cases h2 : 0 < R n
    · rw [if_pos h2, if_pos ((h n (by omega)).1 h2)]
    · rw [if_neg h2, if_neg (fun hh => h2 ((h n (by omega)).2 hh))]
/-- One frame more is in use. -/
theorem nfree_take {R R' : Nat → Int} {n k : Nat} (hk : k < n) (h0 : ¬ 0 < R k) (h1 : 0 < R' k) (h : ∀ i, i ≠ k → R' i = R i) : nfree R n = nfree R' n + 1 := by
  induction n with
  | zero => omega
  | succ n ih =>
    by_cases e : k = n
    · subst e
      simp only [nfree, if_neg h0, if_pos h1]
      rw [nfree_congr (R := R) (R' := R') k (fun i hi => by rw [h i (by omega)])]
    · simp only [nfree, ih (by omega)]
      rw [h n (by omega)]
      omega
def tcnt (T : Nat → Option Nat) : Nat → Nat
  | 0 => 0
  | i + 1 => tcnt T i + if (T i).isSome then 1 else 0
theorem tcnt_congr {T T' : Nat → Option Nat} : ∀ n : Nat, (∀ i, i < n → (T i).isSome = (T' i).isSome) → tcnt T n = tcnt T' n
  | 0, _ => rfl
  | n + 1, h => by simp only [tcnt, tcnt_congr n (fun i hi => h i (by omega)), h n (by omega)]
theorem tcnt_take {T T' : Nat → Option Nat} {n k : Nat} (hk : k < n) (h0 : (T k).isSome = false) (h1 : (T' k).isSome = true) (h : ∀ i, i ≠ k → T' i = T i) : tcnt T' n = tcnt T n + 1 := by
  induction n with
  | zero => omega
  | succ n ih =>
    by_cases e : k = n
    · subst e
      simp only [tcnt, h0, h1]
      rw [tcnt_congr k (fun i hi => by rw [h i (by omega)])]
      simp
    · simp only [tcnt, ih (by omega)]
      rw [h n (by omega)]
      omega
/-- A root and its tables; T tells which. -/
structure Mm.Tree (M : Mm) (r : Nat) (T : Nat → Option Nat) (cu : Nat) : Prop where
  n2 : M.n ≤ 256
  rn : r < M.n
  rR : M.R r = 1
  tb : ∀ i k, T i = some k → i < 16 ∧ k < M.n ∧ k ≠ r ∧ M.R k = 1
  inj : ∀ i j k, T i = some k → T j = some k → i = j
  top0 : ∀ i, i < 16 → T i = none → M.ent r i = (0, 0)
  top1 : ∀ i k, T i = some k → M.ent r i = (1, (k : Int))
  low : ∀ i k j, T i = some k → j < 16 → (M.ent k j).1 = 0 → M.ent k j = (0, 0)
  ne : ∀ i k, T i = some k → ∃ j, j < 16 ∧ (M.ent k j).1 ≠ 0
  cnt : nfree M.R M.n + cu + tcnt T 16 = M.n
/-- What an act on a root leaves of the other frames. -/
structure Mm.Kept (M M' : Mm) (r : Nat) (T T' : Nat → Option Nat) : Prop where
  keepR : ∀ x, 0 < M.R x → (∀ i, T i ≠ some x) → M'.R x = M.R x
  keepT : ∀ i k, T' i = some k → T i = some k ∨ ¬ 0 < M.R k
  keepB : ∀ x, 0 < M.R x → x ≠ r → (∀ i, T i ≠ some x) → ∀ o, M'.B x o = M.B x o
theorem Mm.Kept.refl (M : Mm) (r : Nat) (T : Nat → Option Nat) : M.Kept M r T T := ⟨fun _ _ _ => rfl, fun _ _ h => .inl h, fun _ _ _ _ _ => rfl⟩
/-- What stands at a page: flags, frame. -/
def Mm.lk (M : Mm) (r : Int) (p : Nat) : Int × Int := if (M.get r (p / 16)).1 = 0 then (0, 0) else M.get (M.get r (p / 16)).2 (p % 16)
theorem Mm.lk_tree {M : Mm} {r : Nat} {T : Nat → Option Nat} {cu : Nat} (h : M.Tree r T cu) {p : Nat} (hp : p < 256) : M.lk r p = match T (p / 16) with | none => (0, 0) | some k => M.ent k (p % 16) := by
  have hu : M.isUsed r = true := Mm.isUsed_nat h.rn (by rw [h.rR]; decide)
  unfold Mm.lk
  have hg : M.get r (p / 16) = M.ent r (p / 16) := by simp [Mm.get, hu]
  rw [hg]
  cases hT : T (p / 16) with
  | none => rw [h.top0 _ (by omega) hT]; rfl
  | some k =>
    rw [h.top1 _ _ hT]
    have := h.tb _ _ hT
    have hu2 : M.isUsed k = true := Mm.isUsed_nat this.2.1 (by rw [this.2.2.2]; decide)
    simp [Mm.get, hu2]
theorem Mm.Tree.check {M : Mm} {r : Nat} {T : Nat → Option Nat} {cu : Nat} (h : M.Tree r T cu) (page : Int) : M.check r page = if 0 ≤ page ∧ page ≤ 255 then 0 else 2 := by
  have hu : M.isUsed r = true := Mm.isUsed_nat h.rn (by rw [h.rR]; decide)
  simp [Mm.check, hu]
theorem Mm.walk_lk (M : Mm) (r : Int) (p : Nat) (hc : M.check r p = 0) : M.walk r p = if (M.lk r p).1 = 0 then (0, 0, 30) else ((M.lk r p).2, (M.lk r p).1, 0) := by
  simp only [Mm.walk, hc, ne_eq, not_true_eq_false, if_false, Int.toNat_natCast, Mm.lk]
  by_cases h1 : (M.get r (p / 16)).1 = 0
  · simp [h1]
  · simp [h1]
theorem Mm.Tree.walk {M : Mm} {r : Nat} {T : Nat → Option Nat} {cu : Nat} (h : M.Tree r T cu) {p : Nat} (hp : p < 256) : M.walk r p = if (M.lk r p).1 = 0 then (0, 0, 30) else ((M.lk r p).2, (M.lk r p).1, 0) :=
  M.walk_lk r p (by rw [h.check, if_pos (by omega)])
theorem Mm.Tree.walk_out {M : Mm} {r : Nat} {T : Nat → Option Nat} {cu : Nat} (h : M.Tree r T cu) {page : Int} (hp : ¬ (0 ≤ page ∧ page ≤ 255)) : M.walk r page = (0, 0, 2) := by
  have := h.check page
  rw [if_neg hp] at this
  simp [Mm.walk, this]
theorem Mm.least_spec {M : Mm} {k : Nat} (h : M.least = some k) : k < M.n ∧ M.R k ≤ 0 ∧ ∀ i, i < k → 0 < M.R i := by
  unfold Mm.least at h
  rw [List.find?_range_eq_some] at h
  obtain ⟨h1, h2, h3⟩ := h
  refine ⟨List.mem_range.1 h2, by simpa using h1, fun i hi => ?_⟩
  have := h3 i hi
  simp at this; omega

theorem Mm.map_new {M : Mm} {r : Nat} {T : Nat → Option Nat} {cu : Nat} (h : M.Tree r T cu) {i : Nat} (hi : i < 16) (hT : T i = none) {k : Nat} (hl : M.least = some k) {j fl fr : Nat} (hj : j < 16) (hfl : fl < 256) (hfr : fr < 65536) (hfl0 : fl ≠ 0) :
    ((M.alloc k).put r i 1 k).mapLow k j fl fr = (((M.alloc k).put r i 1 k).put k j fl fr, 0) ∧
      (((M.alloc k).put r i 1 k).put k j fl fr).Tree r (fun x => if x = i then some k else T x) cu ∧
      (((M.alloc k).put r i 1 k).put k j fl fr).n = M.n ∧
      (((M.alloc k).put r i 1 k).put k j fl fr).ent k j = ((fl : Int), (fr : Int)) ∧
      (∀ y, y < 16 → y ≠ j → (((M.alloc k).put r i 1 k).put k j fl fr).ent k y = (0, 0)) ∧
      (∀ x y, x ≠ k → x ≠ r → (((M.alloc k).put r i 1 k).put k j fl fr).ent x y = M.ent x y) ∧
      M.Kept (((M.alloc k).put r i 1 k).put k j fl fr) r T (fun x => if x = i then some k else T x) := by
  obtain ⟨hk, hz, -⟩ := Mm.least_spec hl
  have hn2 := h.n2
  have hkr : k ≠ r := by intro e; subst e; have := h.rR; omega
  have hkT : ∀ x y, T x = some y → y ≠ k := by intro x y hx e; subst e; have := (h.tb _ _ hx).2.2.2; omega
  obtain ⟨M1, h1⟩ : ∃ M1, M1 = M.alloc k := ⟨_, rfl⟩
  have n1 : M1.n = M.n := by rw [h1]; rfl
  have R1 : ∀ x, M1.R x = if x = k then 1 else M.R x := by intro x; rw [h1]; rfl
  have R1k : M1.R k = 1 := by rw [R1, if_pos rfl]
  have R1r : M1.R r = 1 := by rw [R1, if_neg (Ne.symm hkr)]; exact h.rR
  have E1 : ∀ x y, M1.ent x y = if x = k then (0, 0) else M.ent x y := by intro x y; rw [h1]; exact Mm.alloc_ent M k x y
  obtain ⟨M2, h2⟩ : ∃ M2, M2 = M1.put r i 1 k := ⟨_, rfl⟩
  have n2 : M2.n = M.n := by rw [h2, Mm.put_n, n1]
  have R2 : M2.R = M1.R := by rw [h2, Mm.put_R]
  have E2 : ∀ x y, M2.ent x y = if x = r ∧ y = i then ((1 : Int), (k : Int)) else M1.ent x y := by
    intro x y
    rw [h2, Mm.put_ent (by rw [n1]; exact h.rn) (by rw [R1r]; decide) i 1 k x y (by omega) (by omega)]
    rfl
  obtain ⟨M3, h3⟩ : ∃ M3, M3 = M2.put k j fl fr := ⟨_, rfl⟩
  have n3 : M3.n = M.n := by rw [h3, Mm.put_n, n2]
  have R3 : M3.R = M1.R := by rw [h3, Mm.put_R, R2]
  have E3 : ∀ x y, M3.ent x y = if x = k ∧ y = j then ((fl : Int), (fr : Int)) else M2.ent x y := by
    intro x y
    rw [h3, Mm.put_ent (by rw [n2]; exact hk) (by rw [R2, R1k]; decide) j fl fr x y hfl hfr]
  rw [← h1, ← h2, ← h3]
  have hgz : M2.get k j = (0, 0) := by
    unfold Mm.get
    split
    · rw [Int.toNat_natCast, E2, if_neg (by omega), E1, if_pos rfl]
    · rfl
  refine ⟨?_, ?_, n3, ?_, ?_, ?_, ?_, ?_, ?_⟩
  · unfold Mm.mapLow; rw [if_pos hgz, ← h3]
  · refine ⟨by rw [n3]; exact hn2, by rw [n3]; exact h.rn, by rw [R3]; exact R1r, ?_, ?_, ?_, ?_, ?_, ?_, ?_⟩
    · intro x y hx
      by_cases e : x = i
      · subst e
        simp at hx; subst hx
        exact ⟨hi, by rw [n3]; exact hk, hkr, by rw [R3]; exact R1k⟩
      · simp only [if_neg e] at hx
        obtain ⟨a, b, c, d⟩ := h.tb x y hx
        exact ⟨a, by rw [n3]; exact b, c, by rw [R3, R1, if_neg (hkT _ _ hx)]; exact d⟩
    · intro x y z hx hy
      by_cases e : x = i <;> by_cases e' : y = i
      · omega
      · simp only [if_pos e, if_neg e', Option.some.injEq] at hx hy; subst hx; exact absurd rfl (hkT _ _ hy)
      · simp only [if_pos e', if_neg e, Option.some.injEq] at hx hy; subst hy; exact absurd rfl (hkT _ _ hx)
      · simp only [if_neg e, if_neg e'] at hx hy; exact h.inj _ _ _ hx hy
    · intro x hx hn
      by_cases e : x = i
      · simp [e] at hn
      · simp only [if_neg e] at hn
        rw [E3, if_neg (by omega), E2, if_neg (by omega), E1, if_neg (by omega)]
        exact h.top0 x hx hn
    · intro x y hx
      by_cases e : x = i
      · simp only [if_pos e, Option.some.injEq] at hx; subst hx; subst e
        rw [E3, if_neg (by omega), E2, if_pos ⟨rfl, rfl⟩]
      · simp only [if_neg e] at hx
        rw [E3, if_neg (by omega), E2, if_neg (by omega), E1, if_neg (by omega)]
        exact h.top1 x y hx
    · intro x y z hx hz
      by_cases e : x = i
      · simp only [if_pos e, Option.some.injEq] at hx; subst hx; subst e
        rw [E3]
        by_cases e2 : z = j
        · rw [if_pos ⟨rfl, e2⟩]; intro hh; simp only at hh; omega
        · rw [if_neg (by omega), E2, if_neg (by omega), E1, if_pos rfl]; intro _; rfl
      · simp only [if_neg e] at hx
        have := hkT _ _ hx
        have h5 := (h.tb _ _ hx).2.2.1
        rw [E3, if_neg (by omega), E2, if_neg (by omega), E1, if_neg (by omega)]
        exact h.low x y z hx hz
    · intro x y hx
      by_cases e : x = i
      · simp only [if_pos e, Option.some.injEq] at hx; subst hx; subst e
        refine ⟨j, hj, ?_⟩
        rw [E3, if_pos ⟨rfl, rfl⟩]
        simp only; omega
      · simp only [if_neg e] at hx
        have := hkT _ _ hx
        have h5 := (h.tb _ _ hx).2.2.1
        obtain ⟨z, hz1, hz2⟩ := h.ne _ _ hx
        refine ⟨z, hz1, ?_⟩
        rw [E3, if_neg (by omega), E2, if_neg (by omega), E1, if_neg (by omega)]
        exact hz2
    · have c := h.cnt
      rw [n3]
      have a1 := nfree_take (R := M.R) (R' := M3.R) (n := M.n) hk (by omega) (by rw [R3, R1k]; decide) (fun x hx => by rw [R3, R1, if_neg hx])
      have a2 := tcnt_take (T := T) (T' := fun x => if x = i then some k else T x) (n := 16) hi (by rw [hT]; rfl) (by simp) (fun x hx => by simp [hx])
      omega
  · rw [E3, if_pos ⟨rfl, rfl⟩]
  · intro y hy hyj
    rw [E3, if_neg (by omega), E2, if_neg (by omega), E1, if_pos rfl]
  · intro x y hxk hxr
    rw [E3, if_neg (by omega), E2, if_neg (by omega), E1, if_neg hxk]
  · intro x hx _
    rw [R3, R1, if_neg (by intro e; subst e; omega)]
  · intro x y hy
    by_cases e : x = i
    · simp only [if_pos e, Option.some.injEq] at hy; subst hy; right; omega
    · simp only [if_neg e] at hy; exact .inl hy
  · intro x hx hxr _ o
    have hxk : x ≠ k := by intro e; subst e; omega
    rw [h3, Mm.put_B _ _ _ _ _ _ _ hxk, h2, Mm.put_B _ _ _ _ _ _ _ hxr, h1]
    simp [Mm.alloc, hxk]

theorem Mm.map_old {M : Mm} {r : Nat} {T : Nat → Option Nat} {cu : Nat} (h : M.Tree r T cu) {i k : Nat} (hT : T i = some k) {j fl fr : Nat} (hj : j < 16) (hfl : fl < 256) (hfr : fr < 65536) (hfl0 : fl ≠ 0) :
    (M.put k j fl fr).Tree r T cu ∧ (M.put k j fl fr).n = M.n ∧ (∀ x y, (M.put k j fl fr).ent x y = if x = k ∧ y = j then ((fl : Int), (fr : Int)) else M.ent x y) ∧ M.Kept (M.put k j fl fr) r T T := by
  obtain ⟨a1, a2, a3, a4⟩ := h.tb _ _ hT
  have E : ∀ x y, (M.put k j fl fr).ent x y = if x = k ∧ y = j then ((fl : Int), (fr : Int)) else M.ent x y := fun x y => Mm.put_ent a2 (by rw [a4]; decide) j fl fr x y hfl hfr
  refine ⟨⟨by rw [Mm.put_n]; exact h.n2, by rw [Mm.put_n]; exact h.rn, by rw [Mm.put_R]; exact h.rR, ?_, h.inj, ?_, ?_, ?_, ?_, ?_⟩, Mm.put_n _ _ _ _ _, E, ⟨fun x _ _ => by rw [Mm.put_R], fun _ _ h => .inl h, fun x _ _ hx o => Mm.put_B _ _ _ _ _ _ _ (fun e => hx i (e ▸ hT))⟩⟩
  · intro x y hx; rw [Mm.put_n, Mm.put_R]; exact h.tb x y hx
  · intro x hx hn; rw [E, if_neg (by omega)]; exact h.top0 x hx hn
  · intro x y hx; rw [E, if_neg (by omega)]; exact h.top1 x y hx
  · intro x y z hx hz
    rw [E]
    split
    · intro hh; simp only at hh; omega
    · exact h.low x y z hx hz
  · intro x y hx
    obtain ⟨z, hz1, hz2⟩ := h.ne _ _ hx
    refine ⟨z, hz1, ?_⟩
    rw [E]
    split
    · simp only; omega
    · exact hz2
  · rw [Mm.put_R, Mm.put_n]; exact h.cnt

/-- Map: an error changes nothing; else the page stands as told, and no other one is touched. -/
theorem Mm.map_law {M : Mm} {r : Nat} {T : Nat → Option Nat} {cu : Nat} (h : M.Tree r T cu) (page frame flags : Int) :
    ((M.map r page frame flags).2 ≠ 0 ∧ (M.map r page frame flags).1 = M) ∨
    ((M.map r page frame flags).2 = 0 ∧ ∃ p : Nat, page = p ∧ p < 256 ∧ flags ≠ 0 ∧ (M.lk r p).1 = 0 ∧ (∃ T', (M.map r page frame flags).1.Tree r T' cu ∧ M.Kept (M.map r page frame flags).1 r T T') ∧ (M.map r page frame flags).1.n = M.n ∧
      (M.map r page frame flags).1.lk r p = (flags, frame) ∧ ∀ q, q < 256 → q ≠ p → (M.map r page frame flags).1.lk r q = M.lk r q) := by
  have hck := h.check page
  by_cases hpg : 0 ≤ page ∧ page ≤ 255
  · rw [if_pos hpg] at hck
    obtain ⟨p, rfl⟩ := Int.eq_ofNat_of_zero_le hpg.1
    by_cases hbad : (0 ≤ frame ∧ frame ≤ 255) ∧ (0 ≤ flags ∧ flags ≤ 7) ∧ flags % 2 = 1
    · obtain ⟨hf, hl, ho⟩ := hbad
      obtain ⟨fr, rfl⟩ := Int.eq_ofNat_of_zero_le hf.1
      obtain ⟨fl, rfl⟩ := Int.eq_ofNat_of_zero_le hl.1
      have hu : M.isUsed r = true := Mm.isUsed_nat h.rn (by rw [h.rR]; decide)
      have hg : M.get r (p / 16) = M.ent r (p / 16) := by simp [Mm.get, hu]
      have hp : p < 256 := by omega
      have hm : M.map r p fr fl = if M.get r (p / 16) = (0, 0) then match M.least with
          | none => (M, 11)
          | some k => ((M.alloc k).put r (p / 16) 1 k).mapLow k (p % 16) fl fr
        else M.mapLow (M.get r (p / 16)).2 (p % 16) fl fr := by
        simp only [Mm.map, hck, ne_eq, not_true_eq_false, if_false, Int.toNat_natCast]; rw [if_neg (fun hh => hh ⟨hf, hl, ho⟩)]; rfl
      cases hT : T (p / 16) with
      | none =>
        rw [hm, if_pos (by rw [hg]; exact h.top0 _ (by omega) hT)]
        cases hle : M.least with
        | none => left; exact ⟨by simp, rfl⟩
        | some k =>
          right
          obtain ⟨g1, g2, g3, g4, g5, g6, g7⟩ := Mm.map_new h (i := p / 16) (by omega) hT hle (j := p % 16) (fl := fl) (fr := fr) (by omega) (by omega) (by omega) (by omega)
          simp only [g1]
          obtain ⟨hk, hz, -⟩ := Mm.least_spec hle
          refine ⟨trivial, p, rfl, hp, by omega, ?_, ⟨_, g2, g7⟩, g3, ?_, ?_⟩
          · rw [Mm.lk_tree h hp, hT]
          · rw [Mm.lk_tree g2 hp]; simp only [if_true]; exact g4
          · intro q hq hqp
            rw [Mm.lk_tree g2 hq, Mm.lk_tree h hq]
            by_cases e : q / 16 = p / 16
            · simp only [if_pos e]
              rw [e, hT]
              exact g5 _ (by omega) (by omega)
            · simp only [if_neg e]
              cases hTq : T (q / 16) with
              | none => rfl
              | some z =>
                have hz2 := h.tb _ _ hTq
                exact g6 _ _ (by intro e; subst e; omega) hz2.2.2.1
      | some k =>
        have hne : M.get r (p / 16) = (1, (k : Int)) := by rw [hg]; exact h.top1 _ _ hT
        rw [hm, if_neg (by rw [hne]; simp), hne]
        simp only
        obtain ⟨a1, a2, a3, a4⟩ := h.tb _ _ hT
        have hgk : M.get k (p % 16) = M.ent k (p % 16) := by simp [Mm.get, Mm.isUsed_nat a2 (by rw [a4]; decide)]
        unfold Mm.mapLow
        rw [hgk]
        by_cases hz : M.ent k (p % 16) = (0, 0)
        · right
          rw [if_pos hz]
          obtain ⟨g1, g2, g3, g7⟩ := Mm.map_old h hT (j := p % 16) (fl := fl) (fr := fr) (by omega) (by omega) (by omega) (by omega)
          refine ⟨rfl, p, rfl, hp, by omega, ?_, ⟨_, g1, g7⟩, g2, ?_, ?_⟩
          · rw [Mm.lk_tree h hp, hT]; simp only [hz]
          · rw [Mm.lk_tree g1 hp, hT]; simp only [g3]; simp
          · intro q hq hqp
            rw [Mm.lk_tree g1 hq, Mm.lk_tree h hq]
            cases hTq : T (q / 16) with
            | none => rfl
            | some z =>
              simp only [g3]
              rw [if_neg]
              rintro ⟨e1, e2⟩
              subst e1
              have := h.inj _ _ _ hT hTq
              omega
        · left; rw [if_neg hz]; exact ⟨by simp, rfl⟩
    · left
      have : M.map r p frame flags = (M, 2) := by simp only [Mm.map, hck, ne_eq, not_true_eq_false, if_false, if_pos hbad]
      rw [this]; exact ⟨by simp, rfl⟩
  · left
    rw [if_neg hpg] at hck
    have : M.map r page frame flags = (M, 2) := by simp [Mm.map, hck]
    rw [this]; exact ⟨by simp, rfl⟩

theorem Mm.empty_iff (M : Mm) (t : Int) : M.empty t = true ↔ ∀ i, i < 16 → (M.get t i).1 = 0 := by
  unfold Mm.empty
  simp only [List.all_eq_true, List.mem_range, decide_eq_true_eq]
theorem tcnt_drop {T T' : Nat → Option Nat} {n k : Nat} (hk : k < n) (h0 : (T k).isSome = true) (h1 : (T' k).isSome = false) (h : ∀ i, i ≠ k → T' i = T i) : tcnt T n = tcnt T' n + 1 :=
  tcnt_take hk h1 h0 (fun i hi => (h i hi).symm)
/-- Unmap: an error changes nothing; else the page is none, and no other one is touched. -/
theorem Mm.unmap_law {M : Mm} {r : Nat} {T : Nat → Option Nat} {cu : Nat} (h : M.Tree r T cu) (page : Int) :
    ((M.unmap r page).2.2 ≠ 0 ∧ (M.unmap r page).1 = M ∧ ∀ p : Nat, page = p → p < 256 → (M.lk r p).1 = 0) ∨
    ((M.unmap r page).2.2 = 0 ∧ ∃ p : Nat, page = p ∧ p < 256 ∧ (M.lk r p).1 ≠ 0 ∧ (M.unmap r page).2.1 = (M.lk r p).2 ∧ (∃ T', (M.unmap r page).1.Tree r T' cu ∧ M.Kept (M.unmap r page).1 r T T') ∧ (M.unmap r page).1.n = M.n ∧
      (M.unmap r page).1.lk r p = (0, 0) ∧ ∀ q, q < 256 → q ≠ p → (M.unmap r page).1.lk r q = M.lk r q) := by
  by_cases hpg : 0 ≤ page ∧ page ≤ 255
  · obtain ⟨p, rfl⟩ := Int.eq_ofNat_of_zero_le hpg.1
    have hp : p < 256 := by omega
    have hw := h.walk hp
    by_cases hz : (M.lk r p).1 = 0
    · rw [if_pos hz] at hw
      left
      have : M.unmap r p = (M, 0, 30) := by simp [Mm.unmap, hw]
      rw [this]
      exact ⟨by simp, rfl, fun q hq _ => by obtain rfl : p = q := by omega
                                            exact hz⟩
    · rw [if_neg hz] at hw
      right
      have hu : M.isUsed r = true := Mm.isUsed_nat h.rn (by rw [h.rR]; decide)
      have hg : M.get r (p / 16) = M.ent r (p / 16) := by simp [Mm.get, hu]
      have hm : M.unmap r p = (M.cut r (M.get r (p / 16)).2 (p / 16) (p % 16), (M.lk r p).2, 0) := by
        simp [Mm.unmap, hw]
      have hlk := Mm.lk_tree h hp
      cases hT : T (p / 16) with
      | none => rw [hT] at hlk; rw [hlk] at hz; exact absurd rfl hz
      | some k =>
        rw [hT] at hlk
        simp only at hlk
        rw [hm, hg, h.top1 _ _ hT]
        simp only
        obtain ⟨a1, a2, a3, a4⟩ := h.tb _ _ hT
        have hn2 := h.n2
        have E1 : ∀ x y, (M.put k (p % 16) 0 0).ent x y = if x = k ∧ y = p % 16 then (0, 0) else M.ent x y := fun x y => Mm.put_ent a2 (by rw [a4]; decide) (p % 16) 0 0 x y (by omega) (by omega)
        have R1 := Mm.put_R M k (p % 16) 0 0
        have N1 := Mm.put_n M k (p % 16) 0 0
        obtain ⟨M1, hM1⟩ : ∃ M1, M1 = M.put k (p % 16) 0 0 := ⟨_, rfl⟩
        unfold Mm.cut
        rw [← hM1] at E1 R1 N1 ⊢
        have hgk : ∀ y, M1.get k y = M1.ent k y := by
          intro y
          have : M1.isUsed k = true := Mm.isUsed_nat (by rw [N1]; exact a2) (by rw [R1, a4]; decide)
          simp [Mm.get, this]
        refine ⟨trivial, p, rfl, hp, hz, rfl, ?_⟩
        by_cases he : M1.empty k = true
        · rw [if_pos he]
          have he' := (Mm.empty_iff _ _).1 he
          have hu1 : M1.isUsed k = true := Mm.isUsed_nat (by rw [N1]; exact a2) (by rw [R1, a4]; decide)
          have hfr : M1.free k = M1.setR k (M1.R k - 1) := by simp [Mm.free, hu1]
          obtain ⟨M2, hM2⟩ : ∃ M2, M2 = M1.free k := ⟨_, rfl⟩
          have R2 : ∀ x, M2.R x = if x = k then 0 else M.R x := by
            intro x; rw [hM2, hfr]; unfold Mm.setR; simp only [R1, a4]; rfl
          have N2 : M2.n = M.n := by rw [hM2, hfr, ← N1]; rfl
          have E2 : ∀ x y, M2.ent x y = M1.ent x y := by intro x y; rw [hM2, hfr]; rfl
          rw [← hM2]
          have R2r : M2.R r = 1 := by rw [R2, if_neg (Ne.symm a3)]; exact h.rR
          have E3 : ∀ x y, (M2.put r (p / 16) 0 0).ent x y = if x = r ∧ y = p / 16 then (0, 0) else M1.ent x y := by
            intro x y; rw [Mm.put_ent (by rw [N2]; exact h.rn) (by rw [R2r]; decide) (p / 16) 0 0 x y (by omega) (by omega), E2]; rfl
          have R3 : (M2.put r (p / 16) 0 0).R = M2.R := Mm.put_R _ _ _ _ _
          have N3 : (M2.put r (p / 16) 0 0).n = M.n := by rw [Mm.put_n, N2]
          obtain ⟨M3, hM3⟩ : ∃ M3, M3 = M2.put r (p / 16) 0 0 := ⟨_, rfl⟩
          rw [← hM3] at E3 R3 N3 ⊢
          have hoth : ∀ x y, x ≠ p / 16 → T x = some y → y ≠ k := by
            intro x y hx hy e; subst e; exact hx (h.inj _ _ _ hy hT)
          have tree : M3.Tree r (fun x => if x = p / 16 then none else T x) cu := by
            refine ⟨by rw [N3]; exact hn2, by rw [N3]; exact h.rn, by rw [R3]; exact R2r, ?_, ?_, ?_, ?_, ?_, ?_, ?_⟩
            · intro x y hx
              by_cases e : x = p / 16
              · simp [e] at hx
              · simp only [if_neg e] at hx
                obtain ⟨b1, b2, b3, b4⟩ := h.tb x y hx
                exact ⟨b1, by rw [N3]; exact b2, b3, by rw [R3, R2, if_neg (hoth x y e hx)]; exact b4⟩
            · intro x y z hx hy
              by_cases e : x = p / 16
              · simp [e] at hx
              · by_cases e' : y = p / 16
                · simp [e'] at hy
                · simp only [if_neg e, if_neg e'] at hx hy; exact h.inj _ _ _ hx hy
            · intro x hx hn
              rw [E3]
              by_cases e : x = p / 16
              · rw [if_pos ⟨rfl, e⟩]
              · simp only [if_neg e] at hn
                rw [if_neg (by omega), E1, if_neg (by omega)]
                exact h.top0 x hx hn
            · intro x y hx
              by_cases e : x = p / 16
              · simp [e] at hx
              · simp only [if_neg e] at hx
                rw [E3, if_neg (by omega), E1, if_neg (by omega)]
                exact h.top1 x y hx
            · intro x y z hx hz2
              by_cases e : x = p / 16
              · simp [e] at hx
              · simp only [if_neg e] at hx
                have h5 := (h.tb _ _ hx).2.2.1
                have h6 := hoth x y e hx
                rw [E3, if_neg (by omega), E1, if_neg (by omega)]
                exact h.low x y z hx hz2
            · intro x y hx
              by_cases e : x = p / 16
              · simp [e] at hx
              · simp only [if_neg e] at hx
                have h5 := (h.tb _ _ hx).2.2.1
                have h6 := hoth x y e hx
                obtain ⟨z, hz1, hz2⟩ := h.ne _ _ hx
                exact ⟨z, hz1, by rw [E3, if_neg (by omega), E1, if_neg (by omega)]; exact hz2⟩
            · have c := h.cnt
              rw [N3]
              have b1 := nfree_take (R := M3.R) (R' := M.R) (n := M.n) a2 (by rw [R3, R2, if_pos rfl]; decide) (by rw [a4]; decide) (fun x hx => by rw [R3, R2, if_neg hx])
              have b2 := tcnt_drop (T := T) (T' := fun x => if x = p / 16 then none else T x) (n := 16) (k := p / 16) (by omega) (by rw [hT]; rfl) (by simp) (fun x hx => by simp [hx])
              omega
          have kept : M.Kept M3 r T (fun x => if x = p / 16 then none else T x) := by
            refine ⟨fun x hx hn => ?_, fun x y hy => ?_, fun x hx hxr hn o => ?_⟩
            · have hxk : x ≠ k := fun e => hn (p / 16) (e ▸ hT)
              rw [R3, R2, if_neg hxk]
            · by_cases e : x = p / 16
              · simp [e] at hy
              · simp only [if_neg e] at hy; exact .inl hy
            · have hxk : x ≠ k := fun e => hn (p / 16) (e ▸ hT)
              rw [hM3, Mm.put_B _ _ _ _ _ _ _ hxr, hM2, hfr]
              show M1.B x o = _
              rw [hM1, Mm.put_B _ _ _ _ _ _ _ hxk]
          refine ⟨⟨_, tree, kept⟩, N3, ?_, ?_⟩
          · rw [Mm.lk_tree tree hp]; simp
          · intro q hq hqp
            rw [Mm.lk_tree tree hq, Mm.lk_tree h hq]
            by_cases e : q / 16 = p / 16
            · simp only [if_pos e]
              rw [e, hT]
              have := he' (q % 16) (by omega)
              rw [hgk, E1, if_neg (by omega)] at this
              exact (h.low _ _ _ hT (by omega) this).symm
            · simp only [if_neg e]
              cases hTq : T (q / 16) with
              | none => rfl
              | some z =>
                have h5 := (h.tb _ _ hTq).2.2.1
                have h6 := hoth _ _ e hTq
                simp only
                rw [E3, if_neg (by omega), E1, if_neg (by omega)]
        · rw [if_neg he]
          have he' : ∃ y, y < 16 ∧ (M1.ent k y).1 ≠ 0 := by
            apply Classical.byContradiction
            intro hh
            apply he
            rw [Mm.empty_iff]
            intro y hy
            rw [hgk]
            apply Classical.byContradiction
            intro h3
            exact hh ⟨y, hy, h3⟩
          have tree : M1.Tree r T cu := by
            refine ⟨by rw [N1]; exact hn2, by rw [N1]; exact h.rn, by rw [R1]; exact h.rR, ?_, h.inj, ?_, ?_, ?_, ?_, ?_⟩
            · intro x y hx; rw [N1, R1]; exact h.tb x y hx
            · intro x hx hn; rw [E1, if_neg (by omega)]; exact h.top0 x hx hn
            · intro x y hx; rw [E1, if_neg (by omega)]; exact h.top1 x y hx
            · intro x y z hx hz2
              rw [E1]
              split
              · intro _; rfl
              · exact h.low x y z hx hz2
            · intro x y hx
              by_cases e : x = p / 16
              · subst e
                rw [hT] at hx; cases hx
                exact he'
              · obtain ⟨z, hz1, hz2⟩ := h.ne _ _ hx
                have h6 : y ≠ k := by intro e2; subst e2; exact e (h.inj _ _ _ hx hT)
                exact ⟨z, hz1, by rw [E1, if_neg (by omega)]; exact hz2⟩
            · rw [R1, N1]; exact h.cnt
          refine ⟨⟨_, tree, ⟨fun x _ _ => by rw [R1], fun _ _ h => .inl h, fun x _ _ hn o => by
            have hxk : x ≠ k := fun e => hn (p / 16) (e ▸ hT)
            rw [hM1, Mm.put_B _ _ _ _ _ _ _ hxk]⟩⟩, N1, ?_, ?_⟩
          · rw [Mm.lk_tree tree hp, hT]; simp only; rw [E1, if_pos ⟨rfl, rfl⟩]
          · intro q hq hqp
            rw [Mm.lk_tree tree hq, Mm.lk_tree h hq]
            cases hTq : T (q / 16) with
            | none => rfl
            | some z =>
              simp only [E1]
              rw [if_neg]
              rintro ⟨e1, e2⟩
              subst e1
              have := h.inj _ _ _ hT hTq
              omega
  · left
    have : M.unmap r page = (M, 0, 2) := by simp [Mm.unmap, h.walk_out hpg]
    rw [this]
    exact ⟨by simp, rfl, fun p hq hp => by omega⟩

/-- Dropping: behind i entries as many tables less. -/
theorem Mm.dropSt_law {M : Mm} {r : Nat} {T : Nat → Option Nat} {cu : Nat} (h : M.Tree r T cu) : ∀ i, i ≤ 16 →
    (M.dropSt r i).n = M.n ∧ (∀ x y, (M.dropSt r i).ent x y = M.ent x y) ∧ (M.dropSt r i).R r = 1 ∧ nfree (M.dropSt r i).R M.n = nfree M.R M.n + tcnt T i ∧
      (∀ x y, T x = some y → i ≤ x → (M.dropSt r i).R y = 1)
  | 0, _ => ⟨rfl, fun _ _ => rfl, h.rR, rfl, fun x y hx _ => (h.tb x y hx).2.2.2⟩
  | i + 1, hi => by
    obtain ⟨h1, h2, h3, h4, h5⟩ := Mm.dropSt_law h i (by omega)
    have hu : (M.dropSt r i).isUsed r = true := Mm.isUsed_nat (by rw [h1]; exact h.rn) (by rw [h3]; decide)
    have hg : (M.dropSt r i).get r i = M.ent r i := by simp [Mm.get, hu, h2]
    cases hT : T i with
    | none =>
      have : M.dropSt r (i + 1) = M.dropSt r i := by
        simp only [Mm.dropSt]; rw [if_pos (by rw [hg, h.top0 i (by omega) hT])]
      rw [this]
      exact ⟨h1, h2, h3, by rw [h4]; simp [tcnt, hT], fun x y hx hix => h5 x y hx (by omega)⟩
    | some k =>
      obtain ⟨a1, a2, a3, a4⟩ := h.tb _ _ hT
      have hk1 := h5 i k hT (by omega)
      have huk : (M.dropSt r i).isUsed k = true := Mm.isUsed_nat (by rw [h1]; exact a2) (by rw [hk1]; decide)
      have : M.dropSt r (i + 1) = (M.dropSt r i).setR k 0 := by
        simp only [Mm.dropSt]; rw [if_neg (by rw [hg, h.top1 i k hT]; simp), hg, h.top1 i k hT]
        simp [Mm.free, huk, hk1]
      rw [this]
      have R1 : ∀ x, ((M.dropSt r i).setR k 0).R x = if x = k then 0 else (M.dropSt r i).R x := fun x => rfl
      refine ⟨h1, h2, by rw [R1, if_neg (Ne.symm a3)]; exact h3, ?_, ?_⟩
      · have b1 := nfree_take (R := ((M.dropSt r i).setR k 0).R) (R' := (M.dropSt r i).R) (n := M.n) a2 (by rw [R1, if_pos rfl]; decide) (by rw [hk1]; decide) (fun x hx => by rw [R1, if_neg hx])
        rw [b1, h4]; simp [tcnt, hT]; omega
      · intro x y hx hix
        rw [R1, if_neg]
        · exact h5 x y hx (by omega)
        · intro e; subst e; have := h.inj _ _ _ hx hT; omega
theorem Mm.drop_law {M : Mm} {r : Nat} {T : Nat → Option Nat} {cu : Nat} (h : M.Tree r T cu) : (M.drop r).2 = 0 ∧ (M.drop r).1.n = M.n ∧ nfree (M.drop r).1.R M.n + cu = M.n + 1 := by
  obtain ⟨h1, h2, h3, h4, h5⟩ := Mm.dropSt_law h 16 (Nat.le_refl _)
  have hu : (M.dropSt r 16).isUsed r = true := Mm.isUsed_nat (by rw [h1]; exact h.rn) (by rw [h3]; decide)
  have hd : M.drop r = ((M.dropSt r 16).setR r 0, 0) := by
    have hc := h.check 0
    rw [if_pos (by omega)] at hc
    simp [Mm.drop, hc, hu, Mm.free, h3]
  rw [hd]
  generalize M.dropSt r 16 = M1 at *
  refine ⟨rfl, h1, ?_⟩
  have R1 : ∀ x, (M1.setR r 0).R x = if x = r then 0 else M1.R x := fun x => rfl
  have b1 := nfree_take (R := (M1.setR r 0).R) (R' := M1.R) (n := M.n) h.rn (by rw [R1, if_pos rfl]; decide) (by rw [h3]; decide) (fun x hx => by rw [R1, if_neg hx])
  have c := h.cnt
  rw [b1, h4]
  omega
/-- A new memory, and its root. -/
theorem Mm.tree_new (n : Nat) (h1 : 1 ≤ n) (h2 : n ≤ 256) : (Mm.alloc ⟨n, fun _ => 0, fun _ _ => 0⟩ 0).Tree 0 (fun _ => none) 1 := by
  have R1 : ∀ x, (Mm.alloc ⟨n, fun _ => 0, fun _ _ => 0⟩ 0).R x = if x = 0 then 1 else 0 := fun x => rfl
  refine ⟨h2, h1, rfl, by simp, by simp, ?_, by simp, by simp, by simp, ?_⟩
  · intro i hi _; rw [Mm.alloc_ent, if_pos rfl]
  · have b0 : ∀ m, nfree (fun _ => (0 : Int)) m = m := by intro m; induction m with
      | zero => rfl
      | succ m ih => simp [nfree, ih]
    have b1 := nfree_take (R := fun _ => (0 : Int)) (R' := (Mm.alloc ⟨n, fun _ => 0, fun _ _ => 0⟩ 0).R) (n := n) (k := 0) h1 (by simp) (by rw [R1, if_pos rfl]; decide) (fun x hx => by rw [R1, if_neg hx])
    rw [b0] at b1
    have : tcnt (fun _ => none) 16 = 0 := rfl
    rw [this]
    show nfree _ n + 1 + 0 = n
    omega
/-! The list of a root's pages. -/
/-- Of a table that stands at i, behind k entries. -/
def Mm.pgIn (M : Mm) (t : Int) (i : Nat) : Nat → List Nat
  | 0 => []
  | k + 1 => M.pgIn t i k ++ if (M.get t k).1 = 0 then [] else [16 * i + k]
def Mm.pgTo (M : Mm) (r : Int) : Nat → List Nat
  | 0 => []
  | i + 1 => M.pgTo r i ++ if (M.get r i).1 = 0 then [] else M.pgIn (M.get r i).2 i 16
def Mm.pgL (M : Mm) (r : Int) (n : Nat) : List Nat := (List.range n).filter fun p => decide ((M.lk r p).1 ≠ 0)
theorem Mm.pgL_succ (M : Mm) (r : Int) (n : Nat) : M.pgL r (n + 1) = M.pgL r n ++ if (M.lk r n).1 = 0 then [] else [n] := by
  unfold Mm.pgL
  rw [List.range_succ, List.filter_append]
  by_cases h : (M.lk r n).1 = 0 <;> simp [h]
theorem Mm.pgL_none (M : Mm) (r : Int) (n : Nat) : ∀ k, (∀ j, j < k → (M.lk r (n + j)).1 = 0) → M.pgL r (n + k) = M.pgL r n
  | 0, _ => rfl
  | k + 1, h => by rw [← Nat.add_assoc, Mm.pgL_succ, Mm.pgL_none M r n k (fun j hj => h j (by omega)), if_pos (h k (by omega)), List.append_nil]
theorem Mm.pgIn_pgL (M : Mm) (r : Int) (i : Nat) (h : (M.get r i).1 ≠ 0) : ∀ k, k ≤ 16 → M.pgL r (16 * i + k) = M.pgL r (16 * i) ++ M.pgIn (M.get r i).2 i k
  | 0, _ => by simp [Mm.pgIn]
  | k + 1, hk => by
    have e : M.lk r (16 * i + k) = M.get (M.get r i).2 k := by
      unfold Mm.lk
      rw [show (16 * i + k) / 16 = i by omega, show (16 * i + k) % 16 = k by omega, if_neg h]
    rw [← Nat.add_assoc, Mm.pgL_succ, Mm.pgIn_pgL M r i h k (by omega), Mm.pgIn, List.append_assoc, e]
theorem Mm.pgTo_pgL (M : Mm) (r : Int) : ∀ i, M.pgTo r i = M.pgL r (16 * i)
  | 0 => rfl
  | i + 1 => by
    rw [Mm.pgTo, Mm.pgTo_pgL M r i, show 16 * (i + 1) = 16 * i + 16 by omega]
    by_cases h : (M.get r i).1 = 0
    · rw [if_pos h, List.append_nil, Mm.pgL_none]
      intro j hj
      unfold Mm.lk
      rw [show (16 * i + j) / 16 = i by omega, if_pos h]
    · rw [if_neg h, Mm.pgIn_pgL M r i h 16 (Nat.le_refl _)]
/-- The pages that are mapped. -/
def Mm.pages (M : Mm) (r : Int) : List Nat := M.pgL r 256
theorem Mm.pages_eq (M : Mm) (r : Int) : M.pgTo r 16 = M.pages r := M.pgTo_pgL r 16
theorem Mm.mem_pages {M : Mm} {r : Int} {p : Nat} : p ∈ M.pages r ↔ p < 256 ∧ (M.lk r p).1 ≠ 0 := by
  unfold Mm.pages Mm.pgL
  rw [List.mem_filter, List.mem_range]
  simp
theorem Mm.pgL_congr {M M' : Mm} {r : Int} : ∀ n, (∀ p, p < n → ((M.lk r p).1 = 0 ↔ (M'.lk r p).1 = 0)) → M.pgL r n = M'.pgL r n
  | 0, _ => rfl
  | n + 1, h => by
    rw [Mm.pgL_succ, Mm.pgL_succ, Mm.pgL_congr n (fun p hp => h p (by omega))]
    have := h n (by omega)
    by_cases h0 : (M.lk r n).1 = 0
    · rw [if_pos h0, if_pos (this.1 h0)]
    · rw [if_neg h0, if_neg (fun hh => h0 (this.2 hh))]
theorem Mm.pgL_more {M M' : Mm} {r : Int} {p : Nat} (h0 : (M.lk r p).1 = 0) (h1 : (M'.lk r p).1 ≠ 0) : ∀ n, (∀ q, q < n → q ≠ p → M'.lk r q = M.lk r q) → (M'.pgL r n).length = (M.pgL r n).length + if p < n then 1 else 0
  | 0, _ => rfl
  | n + 1, h => by
    rw [Mm.pgL_succ, Mm.pgL_succ, List.length_append, List.length_append, Mm.pgL_more h0 h1 n (fun q hq => h q (by omega))]
    by_cases e : p = n
    · subst e; rw [if_pos h0, if_neg h1, if_neg (by omega), if_pos (by omega)]; simp
    · rw [h n (by omega) (Ne.symm e)]
      by_cases e2 : p < n
      · rw [if_pos e2, if_pos (show p < n + 1 by omega)]; omega
      · rw [if_neg e2, if_neg (show ¬ p < n + 1 by omega)]; omega
theorem Mm.pgL_len (M : Mm) (r : Int) (n : Nat) : (M.pgL r n).length ≤ n := by
  unfold Mm.pgL; have := List.length_filter_le (fun p => decide ((M.lk r p).1 ≠ 0)) (List.range n); simpa using this
theorem Mm.pages_len (M : Mm) (r : Int) : (M.pages r).length ≤ 256 := M.pgL_len r 256
theorem Mm.pgIn_len (M : Mm) (t : Int) (i : Nat) : ∀ k, (M.pgIn t i k).length ≤ k
  | 0 => Nat.le_refl _
  | k + 1 => by
    have := M.pgIn_len t i k
    simp only [Mm.pgIn, List.length_append]
    split <;> simp <;> omega
theorem Mm.pgTo_len (M : Mm) (r : Int) (i : Nat) : (M.pgTo r i).length ≤ 16 * i := by rw [Mm.pgTo_pgL]; exact M.pgL_len r _

/-- The changes of the sixteen that a row of pages goes through. -/
def runs (last : Int) : List Nat → Nat
  | [] => 0
  | p :: l => (if ((p / 16 : Nat) : Int) ≠ last then 1 else 0) + runs ((p / 16 : Nat) : Int) l
def lastOf (last : Int) : List Nat → Int
  | [] => last
  | p :: l => lastOf ((p / 16 : Nat) : Int) l
theorem runs_append (l l2 : List Nat) : ∀ last, runs last (l ++ l2) = runs last l + runs (lastOf last l) l2 := by
  induction l with
  | nil => intro last; simp [runs, lastOf]
  | cons p l ih => intro last; simp only [List.cons_append, runs, lastOf, ih]; omega
theorem lastOf_append (l l2 : List Nat) : ∀ last, lastOf last (l ++ l2) = lastOf (lastOf last l) l2 := by
  induction l with
  | nil => intro last; rfl
  | cons p l ih => intro last; simp only [List.cons_append, lastOf, ih]
theorem runs_same (i : Nat) : ∀ (l : List Nat) (last : Int), (∀ p ∈ l, p / 16 = i) → last ≠ i → runs last l = (if l = [] then 0 else 1) ∧ lastOf last l = if l = [] then last else (i : Int)
  | [], last, _, _ => by simp [runs, lastOf]
  | p :: l, last, h, hl => by
    have hp := h p (by simp)
    have hin : ∀ (l : List Nat), (∀ p ∈ l, p / 16 = i) → runs (i : Int) l = 0 ∧ lastOf (i : Int) l = i := by
      intro l
      induction l with
      | nil => intro _; exact ⟨rfl, rfl⟩
      | cons q l ih =>
        intro h
        have hq := h q (by simp)
        have := ih (fun p hp => h p (by simp [hp]))
        simp only [runs, lastOf, hq, this]
        simp
    have := hin l (fun p hp => h p (by simp [hp]))
    simp only [runs, lastOf, hp, this]
    rw [if_pos (by omega)]
    simp
theorem Mm.mem_pgIn (M : Mm) (t : Int) (i : Nat) : ∀ k p, p ∈ M.pgIn t i k ↔ ∃ j, j < k ∧ p = 16 * i + j ∧ (M.get t j).1 ≠ 0
  | 0, p => by simp [Mm.pgIn]
  | k + 1, p => by
    rw [Mm.pgIn, List.mem_append, Mm.mem_pgIn M t i k p]
    constructor
    · rintro (⟨j, h1, h2, h3⟩ | h)
      · exact ⟨j, by omega, h2, h3⟩
      · split at h
        · cases h
        · rename_i h3; exact ⟨k, by omega, by simpa using h, h3⟩
    · rintro ⟨j, h1, h2, h3⟩
      by_cases e : j = k
      · subst e; right; rw [if_neg h3]; simpa using h2
      · left; exact ⟨j, by omega, h2, h3⟩
theorem Mm.Tree.runs_to {M : Mm} {r : Nat} {T : Nat → Option Nat} {cu : Nat} (h : M.Tree r T cu) : ∀ i, i ≤ 16 → runs (-1) (M.pgTo r i) = tcnt T i ∧ lastOf (-1) (M.pgTo r i) < i
  | 0, _ => by simp [Mm.pgTo, runs, lastOf, tcnt]
  | i + 1, hi => by
    obtain ⟨h1, h2⟩ := h.runs_to i (by omega)
    have hu : M.isUsed r = true := Mm.isUsed_nat h.rn (by rw [h.rR]; decide)
    have hg : M.get r i = M.ent r i := by simp [Mm.get, hu]
    rw [Mm.pgTo, hg, runs_append, lastOf_append, h1, tcnt]
    cases hT : T i with
    | none =>
      rw [h.top0 i (by omega) hT]
      simp [runs, lastOf]
      omega
    | some k =>
      rw [h.top1 i k hT]
      obtain ⟨a1, a2, a3, a4⟩ := h.tb _ _ hT
      have huk : M.isUsed k = true := Mm.isUsed_nat a2 (by rw [a4]; decide)
      obtain ⟨j, hj, hj2⟩ := h.ne _ _ hT
      have hne : M.pgIn k i 16 ≠ [] := by
        intro e
        have : 16 * i + j ∈ M.pgIn k i 16 := (M.mem_pgIn k i 16 _).2 ⟨j, hj, rfl, by simpa [Mm.get, huk] using hj2⟩
        rw [e] at this; cases this
      have := runs_same i (M.pgIn k i 16) (lastOf (-1) (M.pgTo r i)) (fun p hp => by
        obtain ⟨j, h1, h2, _⟩ := (M.mem_pgIn k i 16 p).1 hp
        omega) (by omega)
      rw [if_neg hne, if_neg hne] at this
      rw [if_neg (by simp), this.1, this.2]
      simp
      omega
theorem Mm.Tree.runs {M : Mm} {r : Nat} {T : Nat → Option Nat} {cu : Nat} (h : M.Tree r T cu) : nfree M.R M.n + cu + Ytlbgnmcjdmdjpaa.runs (-1) (M.pages r) = M.n := by
  rw [← Mm.pages_eq, (h.runs_to 16 (Nat.le_refl _)).1]
  exact h.cnt
end Go.Proofs.Ytlbgnmcjdmdjpaa
