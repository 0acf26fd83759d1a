/- The reference's memory: set, Alloc, New. Conditions: its form. -/
import Derived.Test.YtlbgnmcjdmdjpaaRg
import Derived.BigRegion
namespace Go.Proofs.Ytlbgnmcjdmdjpaa
open Go.RowKit Go.Shelf
attribute [local go_sem] Oper.semAt_some

set_option maxHeartbeats 1600000 in
set_option maxRecDepth 16384 in
theorem rset_any {w : World} {r rb rr : Nat} {M : Mm} (h : RefAt w r rb rr M) (t : Int) (i fl fr : Nat) (hi : i < 16) (hfl : fl < 256) (hfr : fr < 65536) :
    Calls Try.prog 70 #[.pointer (some ⟨r, 0, none⟩), .int .i64 t, .int .i64 i, .int .i64 fl, .int .i64 fr] w fun e w' => e = .returned (.tuple #[]) ∧ RefAt w' r rb rr (M.put t i fl fr) ∧ Same (· = rb) w w' := by
  have hcv := run_convert_bytes_back (P := Try.prog) (w.alloc (.cells #[.int .u8 fl, .int .u8 0, .int .u8 ((fr : Int) / 256), .int .u8 ((fr : Int) % 256)] 5)) 66 9 5 ⟨w.heap.size, 0, none⟩ 4
    [UInt8.ofNat fl, 0, UInt8.ofNat (fr / 256), UInt8.ofNat fr] Try.underlying66 Try.underlying5 Try.underlying9 (by
      intro j hj
      have e0 : ((UInt8.ofNat fl).toNat : Int) = fl := by simp; omega
      have e2 : ((UInt8.ofNat (fr / 256)).toNat : Int) = (fr : Int) / 256 := by simp; omega
      have e3 : ((UInt8.ofNat fr).toNat : Int) = (fr : Int) % 256 := by simp
      match j, hj with
      | 0, _ => simp only [List.getElem_cons_zero, e0]; simp [Addr.add]
      | 1, _ => simp [Addr.add]
      | 2, _ => simp only [List.getElem_cons_succ, List.getElem_cons_zero, e2]; simp [Addr.add]
      | 3, _ => simp only [List.getElem_cons_succ, List.getElem_cons_zero, e3]; simp [Addr.add])
  have hs1 : Same (fun _ => False) w (w.alloc (.cells #[.int .u8 fl, .int .u8 0, .int .u8 ((fr : Int) / 256), .int .u8 ((fr : Int) % 256)] 5)) := same_alloc _
  simp only [List.length_cons, List.length_nil, Nat.zero_add, Nat.reduceAdd] at hcv
  have hM1 := h.same0 hs1
  have hii : ((4 * i : Nat) : Int) = 4 * (i : Int) := by omega
  cases hu : M.isUsed t with
  | false =>
    have hwr := rwrite_bad hM1 t ((4 * i : Nat) : Int) ⟨#[UInt8.ofNat fl, 0, UInt8.ofNat (fr / 256), UInt8.ofNat fr]⟩ hu
    rw [hii] at hwr
    go_enter Try.func70, Try.ntmps70
    go_wp2_with fail
    refine (hwr).mono ?_
    rintro e w' ⟨rfl, rfl⟩
    go_wp2
    go_end0
    exact ⟨rfl, by simp only [Mm.put, hu]; exact hM1, hs1.mono (fun _ _ h => h.elim)⟩
  | true =>
    obtain ⟨k, rfl, hk, hR⟩ := Mm.used_iff hu
    have hwr := rwrite_ok hM1 k (4 * i) ⟨#[UInt8.ofNat fl, 0, UInt8.ofNat (fr / 256), UInt8.ofNat fr]⟩ hk hR (by simp [ByteArray.size]; omega)
    rw [hii] at hwr
    go_enter Try.func70, Try.ntmps70
    go_wp2_with fail
    refine (hwr).mono ?_
    rintro e w' ⟨rfl, hM, hs⟩
    go_wp2
    go_end0
    exact ⟨rfl, by simp only [Mm.put, hu, if_true, Int.toNat_natCast]; exact hM, (hs1.mono (fun _ _ h => h.elim)).trans hs⟩

def z64c : Array Value := madeCells #[.int .u8 0] 64
def z64 : ByteArray := ⟨(List.replicate 64 (0 : UInt8)).toArray⟩
theorem info5 : (Try.prog.info? 5).map (fun i => (i.zero, i.size, i.bytes)) = some (some (.int .u8 0), 1, 1) := by kernel_rfl
theorem make64 (w : World) : (Instr.makeSlice 66 (.int .i64 64) (.int .i64 64)).run Try.prog w = .ok (.slice (some ⟨w.heap.size, 0, none⟩) 64 64) (w.alloc (.cells z64c 5)) := by
  obtain ⟨i, hi, h1, h2, h3⟩ := info_parts info5
  have := run_make (P := Try.prog) w 66 5 i _ Try.underlying66 hi h1 .i64 .i64 64 64 (by omega) (by omega) (by rw [h3]; omega) (by omega)
  rw [h2] at this
  exact this
theorem z64c_get (j : Nat) (hj : j < 64) : z64c[j]? = some (.int .u8 0) := by
  unfold z64c madeCells
  rw [Array.getElem?_map, Array.getElem?_range, if_pos hj]
  simp [Nat.mod_one]
theorem conv64 (w : World) (b : Nat) (h : ∀ j, j < 64 → w.cell? ⟨b, j, none⟩ = some (.int .u8 0)) : (convert 66 9 (.slice (some ⟨b, 0, none⟩) 64 64)).run Try.prog w = .ok (.string z64) w := by
  have := run_convert_bytes_back (P := Try.prog) w 66 9 5 ⟨b, 0, none⟩ 64 (List.replicate 64 (0 : UInt8)) Try.underlying66 Try.underlying5 Try.underlying9 (by
    intro j hj
    rw [List.length_replicate] at hj
    have e : (⟨b, 0, none⟩ : Addr).add j = ⟨b, j, none⟩ := by unfold Addr.add; by_cases h : j = 0 <;> simp [h]
    rw [e, h j hj, List.getElem_replicate]
    rfl)
  rw [List.length_replicate] at this
  exact this
theorem z64c_cell (w : World) (j : Nat) (hj : j < 64) : (w.alloc (.cells z64c 5)).cell? ⟨w.heap.size, j, none⟩ = some (.int .u8 0) := by
  rw [World.cell?_alloc_new]; exact z64c_get j hj

theorem RefAt.alloc {w w2 : World} {r rb rr : Nat} {M : Mm} (h : RefAt w r rb rr M) {k : Nat} (hk : k < M.n) (h12 : Same (fun _ => False) (w.setCell ⟨rr, k, none⟩ (.int .i64 1)) w2) :
    RefAt (w2.setCell ⟨rb, k, none⟩ (.string z64)) r rb rr (M.alloc k) := by
  have hs1 : Same (· = rr) w w2 := ((Same.refl (· = rr) w).setCell _ (.inr rfl)).trans (h12.mono (fun _ _ h => h.elim))
  have hs2 : Same (· = rb) w2 (w2.setCell ⟨rb, k, none⟩ (.string z64)) := (Same.refl _ _).setCell _ (.inr rfl)
  have hlt := h.lt
  have hz2 := hs1.size
  obtain ⟨cap, hc⟩ := h.cb
  obtain ⟨cap', hc'⟩ := h.cr
  have hfr : ∀ o, w2.frozen? ⟨rr, o, none⟩ = false := fun o => by
    rw [h12.frozen (a := ⟨rr, o, none⟩) (by simpa using hlt.2.2) (fun h => h)]
    simpa using h.fr o
  refine ⟨⟨cap, hs2.cell (hs1.cell hc h.d3) h.d2⟩, ⟨cap', hs2.cell (hs1.cell hc' h.d3) h.d2⟩, fun i hi => ?_, fun i hi => ?_,
    fun o => by simpa using (hs1.frozen (a := ⟨rb, o, none⟩) hlt.2.1 h.d1).trans (h.fb o), fun o => by simpa using hfr o, fun i hi => ?_, h.n1, h.n2, h.d1, h.d2, h.d3⟩
  · by_cases e : i = k
    · subst e
      rw [Mm.str_alloc_same]
      exact World.cell?_setCell_same _ _ _ (hs1.cell (h.b i hi) h.d1)
    · rw [World.cell?_setCell_other _ _ _ _ (by simp [Ne.symm e]), Mm.str_alloc M k i 0 64 e]
      exact hs1.cell (h.b i hi) h.d1
  · refine hs2.cell (h12.cell ?_ (fun h => h)) (Ne.symm h.d1)
    by_cases e : i = k
    · subst e
      simp only [Mm.alloc, if_true]
      exact World.cell?_setCell_same _ _ _ (h.c i hi)
    · rw [World.cell?_setCell_other _ _ _ _ (by simp [Ne.symm e])]
      simp only [Mm.alloc, if_neg e]
      exact h.c i hi
  · have := h.rR i hi
    simp only [Mm.alloc]
    split <;> omega

set_option maxHeartbeats 1600000 in
set_option maxRecDepth 16384 in
theorem ralloc_any {w : World} {r rb rr : Nat} {M : Mm} (h : RefAt w r rb rr M) :
    Calls Try.prog 67 #[.pointer (some ⟨r, 0, none⟩)] w fun e w' =>
      ((∀ i, i < M.n → 0 < M.R i) ∧ e = .returned (.tuple #[.int .i64 0, .int .i64 11]) ∧ RefAt w' r rb rr M ∧ Same (fun _ => False) w w') ∨
      (∃ k, k < M.n ∧ M.R k ≤ 0 ∧ (∀ i, i < k → 0 < M.R i) ∧ e = .returned (.tuple #[.int .i64 k, .int .i64 0]) ∧ RefAt w' r rb rr (M.alloc k) ∧ Same (fun b => b = rb ∨ b = rr) w w') := by
  obtain ⟨cb, hcb⟩ := h.cb
  obtain ⟨cr, hcr⟩ := h.cr
  have hn2 := h.n2
  have hd1 := h.d1
  have hd2 := h.d2
  have hd3 := h.d3
  have H := Lib.hid h
  clear h
  go_enter Try.func67, Try.ntmps67
  go_wp2
  go_loop [4] (fun v4 => ∃ i : Nat, i ≤ M.n ∧ v4 = .int .i64 i ∧ ∀ j, j < i → 0 < M.R j) (fun v4 => M.n - (intOf v4).toNat)
  case atStart => exact ⟨0, by omega, rfl, by omega⟩
  case round =>
    obtain ⟨i, hi, rfl, hbel⟩ := hrel
    have HBEL := Lib.hid hbel
    clear hbel
    by_cases hlt : i < M.n
    · have hc := H.out.c i hlt
      have hb := H.out.b i hlt
      have hli : (i : Int) < M.n := by omega
      have hr0 := (H.out.rR i hlt).1
      by_cases hz : M.R i = 0
      · have hzb : (M.R i == 0) = true := by simpa using hz
        have HZ := Lib.hid hz
        have hf1 := H.out.fb i
        have hf2 := H.out.fr i
        have hcell := hcb
        obtain ⟨w1, hw1⟩ : ∃ w1, w1 = w.setCell ⟨rr, i, none⟩ (.int .i64 1) := ⟨_, rfl⟩
        have hs1 : Same (· = rr) w w1 := by rw [hw1]; exact (Same.refl _ _).setCell _ (.inr rfl)
        have k1 := hs1.cell hcb hd3
        have k2 := hs1.cell hb hd1
        have k3 := hs1.unfrozen hb hf1 hd1
        have mk := make64 w1
        have mkd := make64 w1.drew
        have cv := conv64 (w1.alloc (.cells z64c 5)) w1.heap.size (fun j hj => z64c_cell w1 j hj)
        have cvd := conv64 (w1.alloc (.cells z64c 5)).drew w1.heap.size (fun j hj => z64c_cell w1 j hj)
        clear hz
        go_wp2_with fail
        rw [← hw1]
        have HW1 := Lib.hid hw1
        clear hw1 hcb hcr hc hb hs1 hf1 hf2 hcell
        have hsz := same_alloc (W := w1) (.cells z64c 5)
        have m1 := hsz.cell k1 (fun h => h)
        have m2 := hsz.cell k2 (fun h => h)
        have m3 := hsz.unfrozen k2 k3 (fun h => h)
        clear hsz
        go_region
        all_goals go_wp2
        all_goals
          go_ret2
          have hw1 := HW1.out
          subst hw1
          refine .inr ⟨i, hlt, by rw [HZ.out]; exact Int.le_refl _, HBEL.out, rfl, (H.out.alloc hlt (same_alloc _)).same0 ((Same.refl _ _).drew), ?_⟩
          exact ((((Same.refl _ _).setCell _ (.inr (.inr rfl))).alloc _).setCell _ (.inr (.inl rfl))).drew
      · have hzb : (M.R i == 0) = false := by simpa using hz
        have HZ := Lib.hid hz
        clear hz
        go_wp2
        go_round
        case rel =>
          refine ⟨i + 1, by omega, by go_num, fun j hj => ?_⟩
          by_cases e : j = i
          · subst e; have := HZ.out; omega
          · exact HBEL.out j (by omega)
        case measure => simp [intOf]; omega
    · obtain rfl : i = M.n := by omega
      go_wp2
      go_ret2
      exact .inl ⟨HBEL.out, rfl, H.out, Same.refl _ _⟩
end Go.Proofs.Ytlbgnmcjdmdjpaa
