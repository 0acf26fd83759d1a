import Derived.Test.YtlbgnmcjdmdjpaaM
namespace Go.Proofs.Ytlbgnmcjdmdjpaa
open Go.RowKit Go.Shelf
attribute [local go_sem] Oper.semAt_some

/-- Drop's loop: the tables of the entries below i are freed. -/
def Mm.dropSt (M : Mm) (root : Int) : Nat → Mm
  | 0 => M
  | i + 1 => if ((M.dropSt root i).get root i).1 = 0 then M.dropSt root i else (M.dropSt root i).free ((M.dropSt root i).get root i).2
def Mm.drop (M : Mm) (root : Int) : Mm × Int :=
  if M.check root 0 ≠ 0 then (M, M.check root 0) else ((M.dropSt root 16).free root, if (M.dropSt root 16).isUsed root then 0 else 10)

theorem drop_nil (w : World) (root : Int) : Calls Try.prog 37 #[.pointer none, .int .i64 root] w fun e w' => e = .returned (.int .i64 1) ∧ Same (fun _ => False) w w' := by
  refine (callsIn_wide (n := 0)).1 ?_
  refine callsIn_of_wp_marks Try.func37 rfl trivial ?_ rfl
  simp only [Try.ntmps37, List.size_toArray, List.length_cons, List.length_nil, Nat.reduceAdd, Nat.reduceSub, Array.replicate_succ, Array.replicate_zero, List.push_toArray, List.append_toArray, List.nil_append, List.cons_append]
  gi_wp2_with (gi_at_call 58; refine CallsIn.mono (callsIn_wide.2 (check_nil _ _ _)) ?_; rintro e w' ⟨rfl, rfl⟩)
  refine leaves_nil (results_tmp rfl _ _ _) ⟨rfl, same_alloc _⟩

set_option maxHeartbeats 1600000 in
theorem drop_any {w : World} {f fb : Nat} {M : Mm} (h : MemAt w f fb M) (root : Int) :
    Calls Try.prog 37 #[.pointer (some ⟨f, 0, none⟩), .int .i64 root] w fun e w' => e = .returned (.int .i64 (M.drop root).2) ∧ MemAt w' f fb (M.drop root).1 ∧ Same (· = fb) w w' := by
  have hlt := h.lt
  obtain ⟨R, hR⟩ : ∃ R, R = M.drop root := ⟨_, rfl⟩
  rw [← hR]
  by_cases hc : M.check root 0 = 0
  · have hm : R = ((M.dropSt root 16).free root, if (M.dropSt root 16).isUsed root then 0 else 10) := by rw [hR]; unfold Mm.drop; simp [hc]
    have H := Lib.hid h
    have HM := Lib.hid hm
    have hck := check_any (h.same0 (same_alloc (.cells #[.pointer (some ⟨f, 0, none⟩)] 24))) root 0
    rw [hc] at hck
    have HCK := Lib.hid hck
    clear h hm hR hck hc
    refine (callsIn_wide (n := 0)).1 ?_
    refine callsIn_of_wp_marks Try.func37 rfl trivial ?_ rfl
    simp only [Try.ntmps37, List.size_toArray, List.length_cons, List.length_nil, Nat.reduceAdd, Nat.reduceSub, Array.replicate_succ, Array.replicate_zero, List.push_toArray, List.append_toArray, List.nil_append, List.cons_append]
    gi_wp2_with fail
    refine CallsIn.mono (callsIn_wide.2 HCK.out) ?_
    rintro e w1 ⟨rfl, hs1⟩
    have b0 := hs1.cell (a := ⟨w.heap.size, 0, none⟩) (v := .pointer (some ⟨f, 0, none⟩)) (by simp) (by simp)
    have hw1 := World.block_lt_of_cell? _ _ b0
    simp only at hw1
    have hs01 : Same (fun _ => False) w w1 := (same_alloc _).trans hs1
    gi_wp2_with (gi_at_call 59; refine CallsIn.mono (callsIn_wide.2 (entries_any _ _ _)) ?_; rintro e w' ⟨rfl, rfl⟩)
    refine range_wide (gf := 101) (lb := #[.pointer (some ⟨w1.heap.size, 0, none⟩), .pointer (some ⟨w1.heap.size + 1, 0, none⟩)]) rfl (enters_of Try.func101 (by kernel_rfl) rfl) ?_
    intro rec D L W1 hD hL hrule hs2 hl1 hd1 _
    simp only [World.size_alloc, World.size_setCell] at hD
    have hb0 : W1.cell? ⟨w1.heap.size, 0, none⟩ = some (.pointer (some ⟨f, 0, none⟩)) := hs2.cell (by simp [go_sem]) (by simp)
    have hb1 : W1.cell? ⟨w1.heap.size + 1, 0, none⟩ = some (.int .i64 root) := hs2.cell (by simp [go_sem]) (by simp)
    have hb2 : W1.cell? ⟨w.heap.size, 0, none⟩ = some (.pointer (some ⟨f, 0, none⟩)) := hs2.cell ((same_alloc _ |>.alloc _).cell b0 (by simp)) (by simp)
    have hs3 : Same (fun _ => False) w W1 := ((hs01.alloc _).alloc _).trans (hs2.mono (by simp))
    have hM1 := H.out.same0 hs3
    clear hs1 hs2 b0
    refine Calls.mono (entries1 L w1.heap.size (w1.heap.size + 1) f fb root (fun i M' W => M' = M.dropSt root i ∧ MemAt W f fb M' ∧ W.cell? ⟨w1.heap.size, 0, none⟩ = some (.pointer (some ⟨f, 0, none⟩)) ∧ W.cell? ⟨w1.heap.size + 1, 0, none⟩ = some (.int .i64 root) ∧ W.cell? ⟨w.heap.size, 0, none⟩ = some (.pointer (some ⟨f, 0, none⟩)) ∧
        Same (fun k => k = fb ∨ w.heap.size ≤ k) w W ∧ W.heap[L]? = some (rec .ready none) ∧ W.heap[D]? = some (.deferred (some [])))
      (fun W => False) ?_ ?_ ?_ ?_ W1 M ⟨rfl, hM1, hb0, hb1, hb2, hs3.mono (fun _ _ h => h.elim), hl1, hd1⟩) ?_
    · rintro i M' W W' ⟨rfl, h1, h2, h3, h4, h5, h6, h7⟩ hs
      exact ⟨rfl, h1.same0 hs, hs.cell h2 (by simp), hs.cell h3 (by simp), hs.cell h4 (by simp), h5.trans (hs.mono (fun _ _ h => h.elim)), hs.block h6 (by simp), hs.block h7 (by simp)⟩
    · rintro i M' W ⟨rfl, h1, h2, h3, h4, h5, h6, h7⟩
      exact ⟨h1, h2, h3⟩
    · rintro i M' W hi ⟨rfl, h1, h2, h3, h4, h5, h6, h7⟩ hz
      refine ⟨?_, h1, h2, h3, h4, h5, h6, h7⟩
      rw [Mm.dropSt, if_pos hz]
    · rintro i M' W hi ⟨hMd, h1, h2, h3, h4, h5, h6, h7⟩ hz
      have hst : M.dropSt root (i + 1) = M'.free (M'.get root i).2 := by rw [Mm.dropSt, ← hMd, if_neg hz]
      obtain ⟨⟨xf, xn⟩, hX⟩ : ∃ x, x = M'.get root i := ⟨_, rfl⟩
      rw [← hX] at hst ⊢
      simp only at hst ⊢
      have HST := Lib.hid hst
      clear hst hX hMd hz
      refine hrule W _ _ h6 rfl ?_
      gi_wp2
      have hA : Same (fun _ => False) W (W.alloc (.cells #[.int .i64 xf, .int .i64 xn] 108)) := same_alloc _
      refine ⟨hA.block h6 (by simp), fun W2 hs2 hz2 hl2 => ?_⟩
      have hw2 := World.block_lt_of_cell? _ _ h4
      have hD2 := (Array.getElem?_eq_some_iff.1 h6).1
      simp only at hw2
      have hsA : Same (fun k => k = L) W W2 := (hA.mono (fun _ _ h => h.elim)).trans (hs2.mono (fun k _ e => e))
      have d2 := hsA.cell h2 (by simp; omega)
      have d3 := hsA.cell h3 (by simp; omega)
      have d4 := hsA.cell h4 (by simp; omega)
      have x0 : W2.cell? ⟨W.heap.size, 0, none⟩ = some (.int .i64 xf) := hs2.cell (by simp) (by simp; omega)
      have x1 : W2.cell? ⟨W.heap.size, 1, none⟩ = some (.int .i64 xn) := hs2.cell (by simp) (by simp; omega)
      have dd := hsA.block h7 (by omega)
      have dl := hl2
      have hM3 := h1.same hsA (by omega) (by omega)
      have hs3 : Same (fun k => k = fb ∨ w.heap.size ≤ k) w W2 := h5.trans (hsA.mono (fun k _ e => by omega))
      gi_wp2_with fail
      refine CallsIn.mono (CallsIn.inRound L (callsIn_wide.2 (free_any hM3 xn))) ?_
      rintro e W4 ⟨rfl, hM4, hs4⟩
      have e2 := hs4.cell d2 (by simp; omega)
      have e3 := hs4.cell d3 (by simp; omega)
      have e4 := hs4.cell d4 (by simp; omega)
      have el := hs4.block dl (by omega)
      have ed := hs4.block dd (by omega)
      have hs5 := hs3.trans (hs4.mono (fun k _ e => .inl e))
      generalize (if M'.isUsed xn = true then (0 : Int) else 10) = fe
      clear d2 d3 d4 dl dd hM3 hs3 hs4 hl2 x0 x1
      gi_wp2
      exact ⟨el, fun W5 hs6 _ hl5 => ⟨rfl, by rw [HST.out]; exact hM4.same hs6 (by omega) (by omega), hs6.cell e2 (by simp; omega), hs6.cell e3 (by simp; omega), hs6.cell e4 (by simp; omega), hs5.trans (hs6.mono (fun k _ e => by omega)), hl5, hs6.block ed (by omega)⟩⟩
    · rintro e W ⟨⟨v, rfl⟩, ⟨M', hMd, h1, h2, h3, h4, h5, h6, h7⟩ | hf⟩
      · refine ⟨⟨_, rfl⟩, .inl ⟨h6, fun W2 hs2 _ => ?_⟩⟩
        have c4 := hs2.cell h4 (by simp; omega)
        have hd2 := hs2.block h7 (by omega)
        have hM2 := h1.same hs2 (by omega) (by omega)
        have hs3 := h5.trans (hs2.mono (T := fun k => k = fb ∨ w.heap.size ≤ k) (fun k _ e => by omega))
        gi_wp2_with fail
        refine CallsIn.mono (callsIn_wide.2 (free_any hM2 root)) ?_
        rintro e W4 ⟨rfl, hM4, hs4⟩
        have hd4 := hs4.block hd2 (by omega)
        have hm2 := HM.out
        rw [← hMd] at hm2
        have HM2 := Lib.hid hm2
        clear hm2
        obtain ⟨fe, hfe⟩ : ∃ fe, fe = (if M'.isUsed root = true then (0 : Int) else 10) := ⟨_, rfl⟩
        rw [← hfe]
        have HFE := Lib.hid hfe
        clear hfe
        gi_wp2
        refine leaves_mark hd4 fun W5 hs6 _ => ⟨results_tmp rfl _ _ _, ?_⟩
        rw [HM2.out, ← HFE.out]
        exact ⟨rfl, hM4.same hs6 (by omega) (by omega), ((hs3.trans (hs4.mono (fun k _ e => .inl e))).trans (hs6.mono (fun k _ e => by omega))).mono (fun k hk h => by omega)⟩
      · exact hf.elim
  · have hm : R = (M, M.check root 0) := by rw [hR]; unfold Mm.drop; simp [hc]
    have hb : (M.check root 0 == 0) = false := by simpa using hc
    have hck := check_any (h.same0 (same_alloc (.cells #[.pointer (some ⟨f, 0, none⟩)] 24))) root 0
    rw [hm]
    clear hm hR hc
    refine (callsIn_wide (n := 0)).1 ?_
    refine callsIn_of_wp_marks Try.func37 rfl trivial ?_ rfl
    simp only [Try.ntmps37, List.size_toArray, List.length_cons, List.length_nil, Nat.reduceAdd, Nat.reduceSub, Array.replicate_succ, Array.replicate_zero, List.push_toArray, List.append_toArray, List.nil_append, List.cons_append]
    gi_wp2_with fail
    refine CallsIn.mono (callsIn_wide.2 hck) ?_
    rintro e w1 ⟨rfl, hs1⟩
    gi_wp2
    have hs01 : Same (fun _ => False) w w1 := (same_alloc _).trans hs1
    refine leaves_nil (results_tmp rfl _ _ _) ⟨rfl, h.same0 hs01, hs01.mono (fun _ _ h => h.elim)⟩
end Go.Proofs.Ytlbgnmcjdmdjpaa
