/- copyio.Out. Conditions: the memory's form; mapped pages have frames in use, each its own, and none is the root's or a table's. -/
import Derived.Test.YtlbgnmcjdmdjpaaCpE
import Derived.Test.YtlbgnmcjdmdjpaaRg
namespace Go.Proofs.Ytlbgnmcjdmdjpaa
open Go.RowKit Go.Shelf
attribute [local go_sem] Oper.semAt_some

/-- The root, its tables and all counts are the same. -/
structure Mm.SameTab (M M' : Mm) (r : Nat) (T : Nat → Option Nat) : Prop where
  n : M'.n = M.n
  R : M'.R = M.R
  root : ∀ o, M'.B r o = M.B r o
  tab : ∀ i k, T i = some k → ∀ o, M'.B k o = M.B k o
theorem Mm.SameTab.refl (M : Mm) (r : Nat) (T : Nat → Option Nat) : M.SameTab M r T := ⟨rfl, rfl, fun _ => rfl, fun _ _ _ _ => rfl⟩
theorem Mm.SameTab.trans {M M' M'' : Mm} {r : Nat} {T : Nat → Option Nat} (h : M.SameTab M' r T) (g : M'.SameTab M'' r T) : M.SameTab M'' r T :=
  ⟨g.n.trans h.n, g.R.trans h.R, fun o => (g.root o).trans (h.root o), fun i k hk o => (g.tab i k hk o).trans (h.tab i k hk o)⟩
theorem Mm.SameTab.tree {M M' : Mm} {r : Nat} {T : Nat → Option Nat} {cu : Nat} (h : M.SameTab M' r T) (ht : M.Tree r T cu) : M'.Tree r T cu := by
  have er : ∀ i, M'.ent r i = M.ent r i := fun i => by unfold Mm.ent; simp only [h.root]
  have ek : ∀ i k, T i = some k → ∀ j, M'.ent k j = M.ent k j := fun i k hk j => by unfold Mm.ent; simp only [h.tab i k hk]
  refine ⟨by rw [h.n]; exact ht.n2, by rw [h.n]; exact ht.rn, by rw [h.R]; exact ht.rR, fun i k hk => by rw [h.n, h.R]; exact ht.tb i k hk, ht.inj, fun i hi hn => by rw [er]; exact ht.top0 i hi hn, fun i k hk => by rw [er]; exact ht.top1 i k hk,
    fun i k j hk hj => by rw [ek i k hk]; exact ht.low i k j hk hj, fun i k hk => ?_, by rw [h.R, h.n]; exact ht.cnt⟩
  obtain ⟨j, hj, hj2⟩ := ht.ne i k hk
  exact ⟨j, hj, by rw [ek i k hk]; exact hj2⟩
theorem Mm.SameTab.lk {M M' : Mm} {r : Nat} {T : Nat → Option Nat} {cu : Nat} (h : M.SameTab M' r T) (ht : M.Tree r T cu) {p : Nat} (hp : p < 256) : M'.lk r p = M.lk r p := by
  rw [Mm.lk_tree (h.tree ht) hp, Mm.lk_tree ht hp]
  cases hT : T (p / 16) with
  | none => rfl
  | some k => simp only; unfold Mm.ent; simp only [h.tab _ k hT]
theorem Mm.SameTab.walk {M M' : Mm} {r : Nat} {T : Nat → Option Nat} {cu : Nat} (h : M.SameTab M' r T) (ht : M.Tree r T cu) (p : Int) : M'.walk r p = M.walk r p := by
  by_cases hp : 0 ≤ p ∧ p ≤ 255
  · obtain ⟨q, rfl⟩ := Int.eq_ofNat_of_zero_le hp.1
    rw [ht.walk (p := q) (by omega), (h.tree ht).walk (p := q) (by omega), h.lk ht (by omega)]
  · rw [ht.walk_out hp, (h.tree ht).walk_out hp]
/-- Each mapped page's frame is in use, its own, and neither the root nor a table. -/
structure Mm.Data (M : Mm) (r : Nat) (T : Nat → Option Nat) : Prop where
  fr : ∀ p : Int, (M.walk r p).2.2 = 0 → ∃ k : Nat, (M.walk r p).1 = k ∧ k < M.n ∧ 0 < M.R k ∧ k ≠ r ∧ ∀ i, T i ≠ some k
  inj : ∀ p q : Int, (M.walk r p).2.2 = 0 → (M.walk r q).2.2 = 0 → (M.walk r p).1 = (M.walk r q).1 → p = q
theorem Mm.Data.ok {M : Mm} {r : Nat} {T : Nat → Option Nat} (h : M.Data r T) : FramesOk M r := by
  intro p hp
  obtain ⟨k, h1, h2, h3, _⟩ := h.fr p hp
  rw [h1]
  exact Mm.isUsed_nat h2 h3
theorem Mm.Data.same {M M' : Mm} {r : Nat} {T : Nat → Option Nat} {cu : Nat} (h : M.Data r T) (hs : M.SameTab M' r T) (ht : M.Tree r T cu) : M'.Data r T :=
  ⟨fun p => by rw [hs.walk ht, hs.n, hs.R]; exact h.fr p, fun p q => by rw [hs.walk ht, hs.walk ht]; exact h.inj p q⟩
/-- Bytes are written at addresses. -/
structure OutR (M M' : Mm) (r : Nat) (T : Nat → Option Nat) (a0 a : Nat) (s : ByteArray) : Prop where
  tab : M.SameTab M' r T
  vb : ∀ i : Nat, (M.walk r ((i : Int) / 64)).2.2 = 0 → M'.vb r i = if a0 ≤ i ∧ i < a then (s.data.toList[i - a0]?).getD 0 else M.vb r i
  keep : ∀ x : Nat, (∀ i : Nat, a0 ≤ i → i < a → (M.walk r ((i : Int) / 64)).1 ≠ x) → ∀ o, M'.B x o = M.B x o
theorem OutR.zero {M : Mm} {r : Nat} {T : Nat → Option Nat} (a0 : Nat) (s : ByteArray) : OutR M M r T a0 a0 s :=
  ⟨Mm.SameTab.refl _ _ _, fun i _ => by rw [if_neg (by omega)], fun _ _ _ => rfl⟩
theorem OutR.step {M M' : Mm} {r : Nat} {T : Nat → Option Nat} {cu a0 a k : Nat} {s : ByteArray} (h : OutR M M' r T a0 a s) (ht : M.Tree r T cu) (hd : M.Data r T) (ha : a0 ≤ a) (hk : a % 64 + k ≤ 64) (h0 : 0 < k) (hs : a - a0 + k ≤ s.size)
    (hok : (M.walk r ((a : Int) / 64)).2.2 = 0) {fr : Nat} (hfr : (M.walk r ((a : Int) / 64)).1 = fr) : OutR M (M'.wr fr (a % 64) (s.extract (a - a0) (a - a0 + k))) r T a0 (a + k) s := by
  obtain ⟨x, h1, h2, h3, h4, h5⟩ := hd.fr _ hok
  obtain rfl : fr = x := by omega
  have hsz : (s.extract (a - a0) (a - a0 + k)).size = k := by rw [ByteArray.size_extract]; omega
  have hB : ∀ y o, (M'.wr fr (a % 64) (s.extract (a - a0) (a - a0 + k))).B y o = if y = fr ∧ a % 64 ≤ o ∧ o < a % 64 + k then (s.data.toList[a - a0 + (o - a % 64)]?).getD 0 else M'.B y o := by
    intro y o
    simp only [Mm.wr, hsz]
    split
    · rename_i hc
      congr 1
      rw [ByteArray.data_extract, Array.toList_extract, List.extract_eq_take_drop, List.getElem?_take, if_pos (by omega), List.getElem?_drop]
    · rfl
  have hT : M'.SameTab (M'.wr fr (a % 64) (s.extract (a - a0) (a - a0 + k))) r T :=
    ⟨rfl, rfl, fun o => by rw [hB, if_neg (by omega)], fun i y hy o => by rw [hB, if_neg (by rintro ⟨rfl, _⟩; exact h5 i hy)]⟩
  have hT2 := h.tab.trans hT
  refine ⟨hT2, fun i hi => ?_, fun y hy o => ?_⟩
  · obtain ⟨fi, g1, g2, g3, g4, g5⟩ := hd.fr _ hi
    have e1 : (M'.wr fr (a % 64) (s.extract (a - a0) (a - a0 + k))).vb r i = (M'.wr fr (a % 64) (s.extract (a - a0) (a - a0 + k))).B fi (i % 64) := by
      unfold Mm.vb; rw [hT2.walk ht, g1, Int.toNat_natCast]
    have e2 : M'.vb r i = M'.B fi (i % 64) := by unfold Mm.vb; rw [h.tab.walk ht, g1, Int.toNat_natCast]
    have hv := h.vb i hi
    rw [e1, hB]
    rw [e2] at hv
    by_cases hf : fi = fr
    · have hpg : ((i : Int) / 64) = ((a : Int) / 64) := hd.inj _ _ hi hok (by rw [g1, hfr, hf])
      by_cases hin : a ≤ i ∧ i < a + k
      · rw [if_pos (by omega), if_pos (by omega)]
        rw [show a - a0 + (i % 64 - a % 64) = i - a0 by omega]
      · rw [if_neg (by omega), hv]
        by_cases hin2 : a0 ≤ i ∧ i < a
        · rw [if_pos hin2, if_pos (by omega)]
        · rw [if_neg hin2, if_neg (by omega)]
    · rw [if_neg (by omega), hv]
      have hne : ¬ (a ≤ i ∧ i < a + k) := by
        intro hin
        apply hf
        have : ((i : Int) / 64) = ((a : Int) / 64) := by omega
        rw [this, hfr] at g1
        omega
      by_cases hin2 : a0 ≤ i ∧ i < a
      · rw [if_pos hin2, if_pos (by omega)]
      · rw [if_neg hin2, if_neg (by omega)]
  · have hyf : y ≠ fr := by
      rintro rfl
      exact hy a ha (by omega) hfr
    rw [hB, if_neg (by omega)]
    exact h.keep y (fun i h1 h2 => hy i h1 (by omega)) o

set_option maxHeartbeats 3200000 in
set_option maxRecDepth 8192 in
theorem clo79 {W : World} {f fb : Nat} {M : Mm} (hM : MemAt W f fb M) (mb sb : Nat) (hm : W.cell? ⟨mb, 0, none⟩ = some (.pointer (some ⟨f, 0, none⟩))) {s : ByteArray} (hv : W.cell? ⟨sb, 0, none⟩ = some (.string s)) (hz : W.frozen? ⟨sb, 0, none⟩ = false) (hsb : sb ≠ fb ∧ sb ≠ f)
    (pg fl : Int) (at_ k fr : Nat) (hat : at_ < 64) (hk : at_ + k ≤ 64) (hks : k ≤ s.size) (hfr : fr < M.n) (hR : 0 < M.R fr) :
    Calls Try.prog 79 #[.agg #[.int .i64 pg, .int .i64 at_, .int .i64 k], .int .i64 fr, .int .i64 fl, .pointer (some ⟨mb, 0, none⟩), .pointer (some ⟨sb, 0, none⟩)] W fun e W' => e = .returned (.int .i64 0) ∧
      MemAt W' f fb (M.wr fr at_ (s.extract 0 k)) ∧ W'.cell? ⟨sb, 0, none⟩ = some (.string (s.extract k s.size)) ∧ W'.frozen? ⟨sb, 0, none⟩ = false ∧ Same (fun b => b = fb ∨ b = sb) W W' := by
  have hlt := World.block_lt_of_cell? _ _ hm
  have hlt2 := World.block_lt_of_cell? _ _ hv
  have hltM := hM.lt
  simp only at hlt hlt2
  have hks' : (k : Int) ≤ s.size := by omega
  have s1 : ∀ w : World, (Instr.slice 9 (.string s) none (some (.int .i64 (k : Int))) none).run Try.prog w = .ok (.string (s.extract 0 k)) w := by
    intro w; rw [run_slice_string_h w 9 s Try.underlying9 .i64 (k : Int) (by omega) (by omega)]; rfl
  have s2 : ∀ w : World, (Instr.slice 9 (.string s) (some (.int .i64 (k : Int))) none none).run Try.prog w = .ok (.string (s.extract k s.size)) w := by
    intro w; rw [run_slice_string_l w 9 s Try.underlying9 .i64 (k : Int) (by omega) (by omega)]; rfl
  have hsA : Same (fun _ => False) W (W.alloc (.cells #[.int .i64 pg, .int .i64 at_, .int .i64 k] 140)).drew := (same_alloc _).drew
  have hz1 : (s.extract 0 k).size = k := by rw [ByteArray.size_extract]; omega
  have hwr := write_ok (hM.same0 hsA) fr at_ (s.extract 0 k) hfr hR hat (by omega)
  have HWR := Lib.hid hwr
  obtain ⟨S, hS⟩ : ∃ S, S = s.extract 0 k := ⟨_, rfl⟩
  obtain ⟨S2, hS2⟩ : ∃ S2, S2 = s.extract k s.size := ⟨_, rfl⟩
  rw [← hS] at s1 HWR ⊢
  rw [← hS2] at s2 ⊢
  have hsA0 : Same (fun _ => False) W (W.alloc (.cells #[.int .i64 pg, .int .i64 at_, .int .i64 k] 140)) := same_alloc _
  have a0 := hsA0.cell hm (fun h => h)
  have a1 := hsA0.cell hv (fun h => h)
  have a2 := hsA0.unfrozen hv hz (fun h => h)
  obtain ⟨WA, hWA⟩ : ∃ WA, WA = W.alloc (.cells #[.int .i64 pg, .int .i64 at_, .int .i64 k] 140) := ⟨_, rfl⟩
  have p1 : WA.cell? ⟨W.heap.size, 1, none⟩ = some (.int .i64 at_) := by rw [hWA]; simp
  have p2 : WA.cell? ⟨W.heap.size, 2, none⟩ = some (.int .i64 k) := by rw [hWA]; simp
  rw [← hWA] at hsA hsA0 HWR a0 a1 a2
  clear hwr hz1 hS hS2 hM
  go_enter Try.func79, Try.ntmps79
  go_wp2_with fail
  rw [← hWA]
  clear hWA
  go_still_tail 8, (by kernel_rfl)
  go_wp2_with fail
  refine HWR.out.mono ?_
  rintro e W2 ⟨rfl, hM2, hs2⟩
  have b1 := hs2.cell (show WA.drew.cell? _ = _ from a1) (by simp; omega)
  have b2 := hs2.unfrozen (show WA.drew.cell? _ = _ from a1) a2 (by simp; omega)
  have b3 : W2.cell? ⟨W.heap.size, 2, none⟩ = some (.int .i64 k) := hs2.cell (show WA.drew.cell? _ = _ from p2) (by simp; omega)
  have HM2 := Lib.hid hM2
  have hz2 := World.block_lt_of_cell? _ _ b3
  have hs3 : Same (fun b => b = fb ∨ b = sb) W W2 := (hsA.mono (fun _ _ h => h.elim)).trans (hs2.mono (fun _ _ h => .inl h))
  clear hM2 hs2 a0 a1 a2
  go_wp2
  go_ret
  exact ⟨rfl, HM2.out.same ((Same.refl (· = sb) _).setCell _ (.inr rfl)) (by omega) (by omega), World.cell?_setCell_same _ _ _ b1, by simpa using b2, hs3.setCell _ (.inr (.inr rfl))⟩
end Go.Proofs.Ytlbgnmcjdmdjpaa
