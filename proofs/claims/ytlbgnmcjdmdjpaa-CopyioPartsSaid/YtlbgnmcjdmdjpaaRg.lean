/- The reference's memory: Read, entry, Write, set. Conditions: its form. -/
import Derived.Test.YtlbgnmcjdmdjpaaRf
import Derived.Laws.DeepStrings4
namespace Go.Proofs.Ytlbgnmcjdmdjpaa
open Go.RowKit Go.Shelf
attribute [local go_sem] Oper.semAt_some

theorem strslice (A : ByteArray) (s e : Nat) (h : s ≤ e) (h2 : e ≤ A.size) (w : World) :
    (Instr.slice 9 (.string A) (some (.int .i64 (s : Int))) (some (.int .i64 (e : Int))) none).run Try.prog w = .ok (.string (A.extract s e)) w := by
  rw [run_slice_string_if w 9 A .i64 .i64 (s : Int) (e : Int) Try.underlying9, if_pos (by omega), if_pos (by omega)]
  simp
theorem Mm.str_size (M : Mm) (k s l : Nat) : (M.str k s l).size = l := by
  unfold Mm.str Mm.bytes
  simp [ByteArray.size]

set_option maxHeartbeats 800000 in
theorem rread_bad {w : World} {r rb rr : Nat} {M : Mm} (h : RefAt w r rb rr M) (a s l : Int) (hu : M.isUsed a = false) :
    Calls Try.prog 36 #[.pointer (some ⟨r, 0, none⟩), .int .i64 a, .int .i64 s, .int .i64 l] w fun e w' => e = .returned (.tuple #[.string ByteArray.empty, .int .i64 10]) ∧ w = w' := by
  have hr := rused_any h a
  rw [hu] at hr
  clear hu
  go_enter Try.func36, Try.ntmps36
  go_wp2_with fail
  refine hr.mono ?_
  rintro e w' ⟨rfl, rfl⟩
  go_wp2
  go_ret2
  exact ⟨rfl, rfl⟩
set_option maxHeartbeats 800000 in
set_option maxRecDepth 16384 in
theorem rread_ok {w : World} {r rb rr : Nat} {M : Mm} (h : RefAt w r rb rr M) (k s l : Nat) (hk : k < M.n) (hR : 0 < M.R k) (hl : s + l ≤ 64) :
    Calls Try.prog 36 #[.pointer (some ⟨r, 0, none⟩), .int .i64 k, .int .i64 s, .int .i64 l] w fun e w' => e = .returned (.tuple #[.string (M.str k s l), .int .i64 0]) ∧ w = w' := by
  have hr := rused_any h k
  rw [Mm.isUsed_nat hk hR] at hr
  obtain ⟨cap, hcb⟩ := h.cb
  have hc := h.b k hk
  have hn2 := h.n2
  have hki : (k : Int) < M.n := by omega
  have hx := M.str_ext k s l hl
  have hz := M.str_size k 0 64
  obtain ⟨A, hA⟩ : ∃ A, A = M.str k 0 64 := ⟨_, rfl⟩
  obtain ⟨B, hB⟩ : ∃ B, B = M.str k s l := ⟨_, rfl⟩
  rw [← hA] at hc hx hz
  rw [← hB] at hx ⊢
  clear hA hB
  have hsl : ∀ w : World, (Instr.slice 9 (.string A) (some (.int .i64 (s : Int))) (some (.int .i64 ((s : Int) + (l : Int)))) none).run Try.prog w = .ok (.string B) w := by
    intro w
    rw [show ((s : Int) + (l : Int)) = ((s + l : Nat) : Int) by omega, strslice A s (s + l) (by omega) (by omega), hx]
  clear hx
  have h1 : decide (64 < (s : Int)) = false := by simp; omega
  have h2 : decide (64 - (s : Int) < (l : Int)) = false := by simp; omega
  clear hR h
  go_enter Try.func36, Try.ntmps36
  go_wp2_with fail
  refine hr.mono ?_
  rintro e w' ⟨rfl, rfl⟩
  go_wp2
  go_ret2
  exact ⟨rfl, rfl⟩

set_option maxHeartbeats 800000 in
set_option maxRecDepth 16384 in
theorem rentry_any {w : World} {r rb rr : Nat} {M : Mm} (h : RefAt w r rb rr M) (t : Int) (i : Nat) (hi : i < 16) :
    Calls Try.prog 69 #[.pointer (some ⟨r, 0, none⟩), .int .i64 t, .int .i64 i] w fun e w' => e = .returned (.tuple #[.int .i64 (M.get t i).1, .int .i64 (M.get t i).2]) ∧ Same (fun _ => False) w w' := by
  cases hu : M.isUsed t with
  | false =>
    have hg : M.get t i = (0, 0) := by simp [Mm.get, hu]
    rw [hg]
    clear hg
    go_enter Try.func69, Try.ntmps69
    go_wp2_with fail
    refine (rread_bad h t _ _ hu).mono ?_
    rintro e w' ⟨rfl, rfl⟩
    go_wp2
    go_ret2
    exact ⟨rfl, Same.refl _ _⟩
  | true =>
    obtain ⟨k, rfl, hk, hR⟩ := Mm.used_iff hu
    have hr : M.get k i = (((M.B k (4 * i)).toNat : Int), ((M.B k (4 * i + 2)).toNat : Int) * 256 + ((M.B k (4 * i + 3)).toNat : Int)) := by simp [Mm.get, hu, Mm.ent]
    have hrd := rread_ok h k (4 * i) 4 hk hR (by omega)
    rw [Mm.str4] at hrd
    rw [show ((4 * i : Nat) : Int) = 4 * (i : Int) by omega] at hrd
    have b0 := (M.B k (4 * i)).toNat_lt
    have b2 := (M.B k (4 * i + 2)).toNat_lt
    have b3 := (M.B k (4 * i + 3)).toNat_lt
    rw [hr]
    generalize M.B k (4 * i) = x0 at *
    generalize M.B k (4 * i + 1) = x1 at *
    generalize M.B k (4 * i + 2) = x2 at *
    generalize M.B k (4 * i + 3) = x3 at *
    have hx : (256 : Int) * (x2.toNat : Int) + (x3.toNat : Int) = (x2.toNat : Int) * 256 + (x3.toNat : Int) := by omega
    have HX := Lib.hid hx
    have w0 := wrap64_id x0.toNat (by omega)
    have w2 := wrap64_id x2.toNat (by omega)
    have w3 := wrap64_id x3.toNat (by omega)
    have w4 : wrap64 (256 * (x2.toNat : Int)) = 256 * (x2.toNat : Int) := by unfold wrap64; omega
    have w5 : wrap64 (256 * (x2.toNat : Int) + (x3.toNat : Int)) = (x2.toNat : Int) * 256 + (x3.toNat : Int) := by unfold wrap64; omega
    have W0 := Lib.hid w0
    have W2 := Lib.hid w2
    have W3 := Lib.hid w3
    have W4 := Lib.hid w4
    have W5 := Lib.hid w5
    clear w0 w2 w3 w4 w5
    clear hr hx hu hR
    go_enter Try.func69, Try.ntmps69
    go_wp2_with fail
    refine hrd.mono ?_
    rintro e w' ⟨rfl, rfl⟩
    go_wp2_with fail
    go_quiet (fail)
    go_wp2
    simp only [bs0, bs2, bs3, W0.out, W2.out, W3.out, W4.out, W5.out]
    go_ret2
    exact ⟨rfl, (Same.refl _ _).drewN _⟩

theorem Mm.str_get (M : Mm) (k s l j : Nat) : (M.str k s l).data.toList[j]? = if j < l then some (M.B k (s + j)) else none := by
  unfold Mm.str Mm.bytes
  simp only [List.getElem?_map]
  by_cases h : j < l
  · rw [if_pos h, List.getElem?_range h]; rfl
  · rw [if_neg h, List.getElem?_eq_none (by simp; omega)]; rfl
theorem bytes_ext {a b : ByteArray} (h : ∀ j : Nat, a.data.toList[j]? = b.data.toList[j]?) : a = b := by
  apply ByteArray.ext
  apply Array.ext'
  exact List.ext_getElem? h
theorem Mm.str_len (M : Mm) (k s l : Nat) : (M.str k s l).data.toList.length = l := by
  unfold Mm.str Mm.bytes; simp
theorem splice_get (A s : ByteArray) (q n : Nat) (hl : A.data.toList.length = n) (hq : q + s.size ≤ n) (j : Nat) : ((A.extract 0 q ++ s) ++ A.extract (q + s.size) n).data.toList[j]? =
      if j < q then A.data.toList[j]? else if j - q < s.size then s.data.toList[j - q]? else (List.take (n - (q + s.size)) (List.drop (q + s.size) A.data.toList))[j - q - s.size]? := by
  have hs : s.data.toList.length = s.size := by rw [Array.length_toList]; rfl
  rw [ByteArray.data_append, Array.toList_append, ByteArray.data_append, Array.toList_append, ByteArray.data_extract, Array.toList_extract, ByteArray.data_extract, Array.toList_extract, List.extract_eq_take_drop, List.extract_eq_take_drop, List.drop_zero, Nat.sub_zero]
  rw [List.append_assoc, List.getElem?_append]
  rw [List.length_take, hl, show min q n = q by omega]
  by_cases h1 : j < q
  · rw [if_pos h1, if_pos h1, List.getElem?_take, if_pos h1]
  · rw [if_neg h1, if_neg h1, List.getElem?_append, hs]
theorem Mm.str_wr (M : Mm) (k q : Nat) (s : ByteArray) (hq : q + s.size ≤ 64) :
    (M.wr k q s).str k 0 64 = ((M.str k 0 64).extract 0 q ++ s) ++ (M.str k 0 64).extract (q + s.size) 64 := by
  apply bytes_ext
  intro j
  have hs : s.data.toList.length = s.size := by rw [Array.length_toList]; rfl
  have hl := M.str_len k 0 64
  have rhs := splice_get (M.str k 0 64) s q 64 hl hq j
  rw [rhs, Mm.str_get]
  by_cases h1 : j < q
  · rw [if_pos h1, Mm.str_get, if_pos (show j < 64 by omega), if_pos (show j < 64 by omega)]
    simp only [Mm.wr, Nat.zero_add]
    rw [if_neg (by omega)]
  · rw [if_neg h1]
    by_cases h2 : j - q < s.size
    · rw [if_pos h2, if_pos (show j < 64 by omega)]
      simp only [Mm.wr, Nat.zero_add]
      rw [if_pos ⟨trivial, by omega, by omega⟩, List.getElem?_eq_getElem (by omega)]
      rfl
    · rw [if_neg h2, List.getElem?_take, List.getElem?_drop, Mm.str_get]
      by_cases h3 : j < 64
      · rw [if_pos h3, if_pos (show j - q - s.size < 64 - (q + s.size) by omega), if_pos (show q + s.size + (j - q - s.size) < 64 by omega)]
        simp only [Mm.wr, Nat.zero_add]
        rw [if_neg (by omega), show q + s.size + (j - q - s.size) = j by omega]
      · rw [if_neg h3, if_neg (show ¬ j - q - s.size < 64 - (q + s.size) by omega)]
theorem Mm.str_wr_other (M : Mm) (k q i : Nat) (s : ByteArray) (hi : i ≠ k) (a l : Nat) : (M.wr k q s).str i a l = M.str i a l := by
  apply bytes_ext
  intro j
  rw [Mm.str_get, Mm.str_get]
  simp only [Mm.wr]
  by_cases h : j < l
  · rw [if_pos h, if_pos h, if_neg (by omega)]
  · rw [if_neg h, if_neg h]
theorem Mm.str_alloc (M : Mm) (k i : Nat) (a l : Nat) (hi : i ≠ k) : (M.alloc k).str i a l = M.str i a l := by
  apply bytes_ext
  intro j
  rw [Mm.str_get, Mm.str_get]
  simp only [Mm.alloc, if_neg hi]
theorem Mm.str_alloc_same (M : Mm) (k l : Nat) : (M.alloc k).str k 0 l = ⟨(List.replicate l (0 : UInt8)).toArray⟩ := by
  apply bytes_ext
  intro j
  rw [Mm.str_get]
  simp only [Mm.alloc, if_true, List.getElem?_replicate]
theorem Mm.str_zero (n k l : Nat) : (Mm.mk n (fun _ => 0) (fun _ _ => 0)).str k 0 l = ⟨(List.replicate l (0 : UInt8)).toArray⟩ := by
  apply bytes_ext
  intro j
  rw [Mm.str_get]
  simp only [List.getElem?_replicate]
theorem RefAt.wr {w : World} {r rb rr : Nat} {M : Mm} (h : RefAt w r rb rr M) {k q : Nat} (hk : k < M.n) (s : ByteArray) (hl : q + s.size ≤ 64) :
    RefAt (w.setCell ⟨rb, k, none⟩ (.string (((M.str k 0 64).extract 0 q ++ s) ++ (M.str k 0 64).extract (q + s.size) 64))) r rb rr (M.wr k q s) := by
  have hs : Same (· = rb) w (w.setCell ⟨rb, k, none⟩ (.string (((M.str k 0 64).extract 0 q ++ s) ++ (M.str k 0 64).extract (q + s.size) 64))) := (Same.refl _ _).setCell _ (.inr rfl)
  obtain ⟨cap, hc⟩ := h.cb
  obtain ⟨cap', hc'⟩ := h.cr
  refine ⟨⟨cap, hs.cell hc h.d2⟩, ⟨cap', hs.cell hc' h.d2⟩, fun i hi => ?_, fun i hi => hs.cell (h.c i hi) (Ne.symm h.d1), fun o => by simpa using h.fb o, fun o => by simpa using h.fr o, h.rR, h.n1, h.n2, h.d1, h.d2, h.d3⟩
  by_cases e : i = k
  · subst e
    rw [Mm.str_wr M i q s hl]
    exact World.cell?_setCell_same _ _ _ (h.b i hi)
  · rw [World.cell?_setCell_other _ _ _ _ (by simp [Ne.symm e]), Mm.str_wr_other M k q i s e]
    exact h.b i hi

set_option maxHeartbeats 800000 in
theorem rwrite_bad {w : World} {r rb rr : Nat} {M : Mm} (h : RefAt w r rb rr M) (a q : Int) (s : ByteArray) (hu : M.isUsed a = false) :
    Calls Try.prog 106 #[.pointer (some ⟨r, 0, none⟩), .int .i64 a, .int .i64 q, .string s] w fun e w' => e = .returned (.int .i64 10) ∧ w = w' := by
  have hr := rused_any h a
  rw [hu] at hr
  clear hu
  go_enter Try.func106, Try.ntmps106
  go_wp2_with fail
  refine hr.mono ?_
  rintro e w' ⟨rfl, rfl⟩
  go_wp2
  go_ret
  exact ⟨rfl, rfl⟩
set_option maxHeartbeats 1600000 in
set_option maxRecDepth 16384 in
theorem rwrite_ok {w : World} {r rb rr : Nat} {M : Mm} (h : RefAt w r rb rr M) (k q : Nat) (s : ByteArray) (hk : k < M.n) (hR : 0 < M.R k) (hl : q + s.size ≤ 64) :
    Calls Try.prog 106 #[.pointer (some ⟨r, 0, none⟩), .int .i64 k, .int .i64 q, .string s] w fun e w' => e = .returned (.int .i64 0) ∧ RefAt w' r rb rr (M.wr k q s) ∧ Same (· = rb) w w' := by
  have hr := rused_any h k
  rw [Mm.isUsed_nat hk hR] at hr
  obtain ⟨cap, hcb⟩ := h.cb
  have hc := h.b k hk
  have hn2 := h.n2
  have hki : (k : Int) < M.n := by omega
  have hz := M.str_size k 0 64
  have hfin := (h.same0 ((Same.refl _ w).drew)).wr hk s hl
  have hfz := h.fb k
  obtain ⟨A, hA⟩ : ∃ A, A = M.str k 0 64 := ⟨_, rfl⟩
  rw [← hA] at hc hz hfin
  have HFIN := Lib.hid hfin
  have h1 : decide (64 < (q : Int)) = false := by simp; omega
  have h2 : decide (64 - (q : Int) < (s.size : Int)) = false := by simp; omega
  have s1 : ∀ w : World, (Instr.slice 9 (.string A) none (some (.int .i64 (q : Int))) none).run Try.prog w = .ok (.string (A.extract 0 q)) w := by
    intro w; rw [run_slice_string_h w 9 A Try.underlying9 .i64 (q : Int) (by omega) (by omega)]; rfl
  have s2 : ∀ w : World, (Instr.slice 9 (.string A) (some (.int .i64 ((q : Int) + (s.size : Int)))) none none).run Try.prog w = .ok (.string (A.extract (q + s.size) 64)) w := by
    intro w; rw [show ((q : Int) + (s.size : Int)) = ((q + s.size : Nat) : Int) by omega, run_slice_string_l w 9 A Try.underlying9 .i64 ((q + s.size : Nat) : Int) (by omega) (by omega), hz]; rfl
  have z1 : (A.extract 0 q).size = q := by rw [ByteArray.size_extract]; omega
  have z2 : (A.extract (q + s.size) 64).size = 64 - (q + s.size) := by rw [ByteArray.size_extract]; omega
  have z3 : (A.extract 0 q ++ s).size = q + s.size := by rw [ByteArray.size_append, z1]
  have a1 : ∀ w : World, (Op.stringOp .add (A.extract 0 q) s).run Try.prog w = .ok (.string (A.extract 0 q ++ s)) w := fun w => run_string_add_sum w _ _ (by rw [z1]; omega)
  have a2 : ∀ w : World, (Op.stringOp .add (A.extract 0 q ++ s) (A.extract (q + s.size) 64)).run Try.prog w = .ok (.string (A.extract 0 q ++ s ++ A.extract (q + s.size) 64)) w := fun w => run_string_add_sum w _ _ (by rw [z3, z2]; omega)
  have hwr : IntKind.i64.wrap ((q : Int) + (s.size : Int)) = (q : Int) + (s.size : Int) := by rw [IntKind.wrap_i64]; omega
  clear hA hfin hR h z1 z2 z3
  go_enter Try.func106, Try.ntmps106
  go_wp2_with fail
  refine hr.mono ?_
  rintro e w' ⟨rfl, rfl⟩
  go_wp2_with fail
  go_still_tail 30, (by kernel_rfl)
  go_wp2
  go_ret
  exact ⟨rfl, HFIN.out, ((Same.refl _ _).drew).setCell _ (.inr rfl)⟩
end Go.Proofs.Ytlbgnmcjdmdjpaa
