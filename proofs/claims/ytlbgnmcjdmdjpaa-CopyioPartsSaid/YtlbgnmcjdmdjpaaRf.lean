/- The reference's memory: used, Refs, right, Read, entry. Conditions: its form. -/
import Derived.Test.YtlbgnmcjdmdjpaaAc
namespace Go.Proofs.Ytlbgnmcjdmdjpaa
open Go.RowKit Go.Shelf
attribute [local go_sem] Oper.semAt_some

/-- The reference's memory lies at r: its bytes at rb, its counts at rr. -/
structure RefAt (w : World) (r rb rr : Nat) (M : Mm) : Prop where
  cb : ∃ cap, w.cell? ⟨r, 0, none⟩ = some (.slice (some ⟨rb, 0, none⟩) M.n cap)
  cr : ∃ cap, w.cell? ⟨r, 1, none⟩ = some (.slice (some ⟨rr, 0, none⟩) M.n cap)
  b : ∀ i, i < M.n → w.cell? ⟨rb, i, none⟩ = some (.string (M.str i 0 64))
  c : ∀ i, i < M.n → w.cell? ⟨rr, i, none⟩ = some (.int .i64 (M.R i))
  fb : ∀ o, w.frozen? ⟨rb, o, none⟩ = false
  fr : ∀ o, w.frozen? ⟨rr, o, none⟩ = false
  rR : ∀ i, i < M.n → 0 ≤ M.R i ∧ M.R i < 1000000
  n1 : 1 ≤ M.n
  n2 : M.n ≤ 256
  d1 : rb ≠ rr
  d2 : r ≠ rb
  d3 : r ≠ rr
theorem RefAt.lt {w : World} {r rb rr : Nat} {M : Mm} (h : RefAt w r rb rr M) : r < w.heap.size ∧ rb < w.heap.size ∧ rr < w.heap.size := by
  obtain ⟨cap, hc⟩ := h.cb
  exact ⟨World.block_lt_of_cell? _ _ hc, World.block_lt_of_cell? _ _ (h.b 0 h.n1), World.block_lt_of_cell? _ _ (h.c 0 h.n1)⟩
theorem RefAt.same {w w' : World} {r rb rr : Nat} {M : Mm} {S : Nat → Prop} (h : RefAt w r rb rr M) (hs : Same S w w') (h1 : ¬ S r) (h2 : ¬ S rb) (h3 : ¬ S rr) : RefAt w' r rb rr M := by
  obtain ⟨cap, hc⟩ := h.cb
  obtain ⟨cap', hc'⟩ := h.cr
  exact ⟨⟨cap, hs.cell hc h1⟩, ⟨cap', hs.cell hc' h1⟩, fun i hi => hs.cell (h.b i hi) h2, fun i hi => hs.cell (h.c i hi) h3, fun o => (hs.frozen (a := ⟨rb, o, none⟩) h.lt.2.1 h2).trans (h.fb o), fun o => (hs.frozen (a := ⟨rr, o, none⟩) h.lt.2.2 h3).trans (h.fr o),
    h.rR, h.n1, h.n2, h.d1, h.d2, h.d3⟩
theorem RefAt.same0 {w w' : World} {r rb rr : Nat} {M : Mm} (h : RefAt w r rb rr M) (hs : Same (fun _ => False) w w') : RefAt w' r rb rr M := h.same hs (fun h => h) (fun h => h) (fun h => h)

set_option maxHeartbeats 800000 in
theorem rused_any {w : World} {r rb rr : Nat} {M : Mm} (h : RefAt w r rb rr M) (a : Int) :
    Calls Try.prog 74 #[.pointer (some ⟨r, 0, none⟩), .int .i64 a] w fun e w' => e = .returned (.bool (M.isUsed a)) ∧ w = w' := by
  obtain ⟨cap, hcr⟩ := h.cr
  have hn2 := h.n2
  by_cases h0 : 0 ≤ a
  · obtain ⟨k, rfl⟩ := Int.eq_ofNat_of_zero_le h0
    by_cases hk : k < M.n
    · have hc := h.c k hk
      have hu : M.isUsed k = decide (0 < M.R k) := by simp [Mm.isUsed, hk]
      rw [hu]
      clear hu
      have hki : (k : Int) < M.n := by omega
      clear h
      go_enter Try.func74, Try.ntmps74
      go_wp2
      go_ret
      exact ⟨rfl, rfl⟩
    · have hu : M.isUsed k = false := by simp [Mm.isUsed]; omega
      rw [hu]
      clear hu
      have hki : decide ((k : Int) < M.n) = false := by simp; omega
      clear h
      go_enter Try.func74, Try.ntmps74
      go_wp2
      go_ret
      exact ⟨rfl, rfl⟩
  · have hu : M.isUsed a = false := by simp [Mm.isUsed]; omega
    rw [hu]
    clear hu h
    have h0' : decide (0 ≤ a) = false := by simp; omega
    go_enter Try.func74, Try.ntmps74
    go_wp2
    go_ret
    exact ⟨rfl, rfl⟩
set_option maxHeartbeats 800000 in
theorem rrefs_any {w : World} {r rb rr : Nat} {M : Mm} (h : RefAt w r rb rr M) (a : Int) :
    Calls Try.prog 105 #[.pointer (some ⟨r, 0, none⟩), .int .i64 a] w fun e w' => e = .returned (.int .i64 (M.refs a)) ∧ w = w' := by
  obtain ⟨cap, hcr⟩ := h.cr
  have hn2 := h.n2
  by_cases h0 : 0 ≤ a
  · obtain ⟨k, rfl⟩ := Int.eq_ofNat_of_zero_le h0
    by_cases hk : k < M.n
    · have hc := h.c k hk
      have hu : M.refs k = M.R k := by
        have := h.rR k hk
        unfold Mm.refs Mm.isUsed
        by_cases h1 : 0 < M.R k
        · rw [if_pos (by simp; omega)]; rfl
        · rw [if_neg (by simp; omega)]; omega
      rw [hu]
      clear hu
      have hki : decide ((M.n : Int) ≤ (k : Int)) = false := by simp; omega
      have hki2 : (k : Int) < M.n := by omega
      clear h
      go_enter Try.func105, Try.ntmps105
      go_wp2
      go_ret
      exact ⟨rfl, rfl⟩
    · have hu : M.refs k = 0 := by unfold Mm.refs Mm.isUsed; rw [if_neg (by simp; omega)]
      rw [hu]
      clear hu
      have hki : decide ((M.n : Int) ≤ (k : Int)) = true := by simp; omega
      clear h
      go_enter Try.func105, Try.ntmps105
      go_wp2
      go_ret
      exact ⟨rfl, rfl⟩
  · have hu : M.refs a = 0 := by unfold Mm.refs Mm.isUsed; rw [if_neg (by simp; omega)]
    rw [hu]
    clear hu h
    have h0' : decide (a < 0) = true := by simp; omega
    go_enter Try.func105, Try.ntmps105
    go_wp2
    go_ret
    exact ⟨rfl, rfl⟩
set_option maxHeartbeats 800000 in
theorem right_any {w : World} {r rb rr : Nat} {M : Mm} (h : RefAt w r rb rr M) (root page : Int) :
    Calls Try.prog 68 #[.pointer (some ⟨r, 0, none⟩), .int .i64 root, .int .i64 page] w fun e w' => e = .returned (.int .i64 (M.check root page)) ∧ w = w' := by
  have hz := M.refs_zero root
  cases hu : M.isUsed root with
  | false =>
    have hc : M.check root page = 10 := by simp [Mm.check, hu]
    have hr : (M.refs root == 0) = true := by rw [beq_iff_eq]; exact hz.2 hu
    rw [hc]
    clear hz hu hc
    go_enter Try.func68, Try.ntmps68
    go_wp2_with fail
    refine (rrefs_any h root).mono ?_
    rintro e w' ⟨rfl, rfl⟩
    go_wp2
    go_ret
    exact ⟨rfl, rfl⟩
  | true =>
    have hr : (M.refs root == 0) = false := by
      rw [beq_eq_false_iff_ne]; intro h0; have := hz.1 h0; rw [hu] at this; cases this
    have hc : M.check root page = if 0 ≤ page ∧ page ≤ 255 then 0 else 2 := by simp [Mm.check, hu]
    obtain ⟨R, hR⟩ : ∃ R, R = M.check root page := ⟨_, rfl⟩
    rw [← hR]
    have HC := Lib.hid (hR.trans hc)
    clear hz hu hc hR
    go_enter Try.func68, Try.ntmps68
    go_wp2_with fail
    refine (rrefs_any h root).mono ?_
    rintro e w' ⟨rfl, rfl⟩
    go_wp2
    all_goals
      go_ret
      refine ⟨?_, rfl⟩
      rw [HC.out]
      first | (rw [if_pos (by omega)]; done) | (rw [if_neg (by omega)]; done) | (rw [if_pos (by omega)]; rfl) | (rw [if_neg (by omega)]; rfl)
/-- A part of a text. -/
theorem Mm.str_ext (M : Mm) (k s l : Nat) (hl : s + l ≤ 64) : (M.str k 0 64).extract s (s + l) = M.str k s l := by
  apply ByteArray.ext
  unfold Mm.str Mm.bytes
  apply Array.ext'
  rw [ByteArray.data_extract, Array.toList_extract]
  simp only
  rw [List.extract_eq_take_drop]
  apply List.ext_getElem?
  intro i
  rw [List.getElem?_take, List.getElem?_drop, List.getElem?_map, List.getElem?_map]
  by_cases hi : i < l
  · rw [if_pos (by omega), List.getElem?_range (by omega), List.getElem?_range hi]
    simp
  · rw [if_neg (by omega), List.getElem?_eq_none (by simp; omega)]
    rfl
end Go.Proofs.Ytlbgnmcjdmdjpaa
