/- The walk of PtableApart. Conditions: the arguments' form. -/
import Derived.Test.YtlbgnmcjdmdjpaaAc
import Derived.Test.YtlbgnmcjdmdjpaaP
namespace Go.Proofs.Ytlbgnmcjdmdjpaa
open Go.RowKit Go.Shelf
attribute [local go_sem] Oper.semAt_some
def mmz (n : Nat) : Mm := ⟨n, fun _ => 0, fun _ _ => 0⟩

set_option maxHeartbeats 3200000 in
set_option maxRecDepth 8192 in
theorem apart_walk (w : World) (a : Option Addr) (len cap : Nat) (page other frame flags : Int) (hlen : len ≤ maxLen) (hrows : ActsAt w a len) (hnil : a = none → len = 0) (hp : In64 page) (ho : In64 other) :
    Calls Try.prog 4 #[.slice a len cap, .int .i64 page, .int .i64 other, .int .i64 frame, .int .i64 flags] w fun e w' => e = .returned (.bool true) ∧ Same (fun _ => False) w w' := by
  unfold maxLen at hlen
  have HROWS := Lib.hid hrows
  have HNIL := Lib.hid hnil
  clear hrows hnil
  go_enter Try.func4, Try.ntmps4
  go_wp2_with fail
  refine (shown2 _).mono ?_
  rintro e w1 ⟨rfl, hs1⟩
  go_wp2_with fail
  refine (new_any _ 60 (by omega) (by omega)).mono ?_
  rintro e w2 ⟨f, fb, rfl, hf, hfb, hM, hs2⟩
  go_wp2_with fail
  refine (root_any hM).mono ?_
  rintro e w3 (⟨hall, -, -, -⟩ | ⟨k, hk, hz, hbel, rfl, hMA, hs3⟩)
  · have := hall 0 (by simp)
    simp at this
  · obtain rfl : k = 0 := by
      rcases Nat.eq_zero_or_pos k with h | h
      · exact h
      · have := hbel 0 h; simp at this
    clear hbel hz hk hM
    have hsz := hs1.size
    have hsw : Same (fun k => w.heap.size ≤ k) w w3 := ((hs1.trans hs2).mono (fun _ _ h => h.elim)).trans (hs3.mono (fun k _ h => by omega))
    have HT := Lib.hid (Mm.tree_new 60 (by omega) (by omega))
    have HMA := Lib.hid hMA
    clear hMA hs1 hs2 hs3
    go_wp2
    go_loopw [16] (fun v16 wr => ∃ i : Nat, i ≤ len ∧ i ≤ 60 ∧ v16 = .int .i64 i ∧ ∃ M T, MemAt wr f fb M ∧ M.Tree 0 T 1 ∧ Same (fun k => w.heap.size ≤ k) w wr) (fun v16 _ => len - (intOf v16).toNat)
    case atStart => exact ⟨0, by omega, by omega, rfl, _, _, HMA.out, HT.out, hsw⟩
    case round =>
      obtain ⟨i, hi1, hi2, rfl, M, T, hMi, hTi, hsi⟩ := hrel
      by_cases hik : i < len ∧ i < 60
      · obtain ⟨hlt, hlt8⟩ := hik
        cases a with
        | none => exact absurd (HNIL.out rfl) (by omega)
        | some x =>
          obtain ⟨d, p, q, K, hact, hpp⟩ := HROWS.out.act rfl hlt
          have hblt := hact.lt
          obtain ⟨c0, c1, c2, c3⟩ := hact.kept (hsi.drew) (fun h => by omega)
          have hMd := hMi.same0 ((Same.refl _ _).drew)
          have hsd := hsi.drew
          have HTI := Lib.hid hTi
          clear hact hMi hsi hTi
          go_wp2_with fail
          go_still_tail 17, (by kernel_rfl)
          go_wp2_with fail
          refine (map_any hMd 0 p q K hpp).mono ?_
          rintro e w4 ⟨rfl, hM4, hs4⟩
          generalize (M.map 0 p q K).2 = er
          have hs5 : Same (fun k => w.heap.size ≤ k) w w4 := hsd.trans (hs4.mono (fun k _ h => by omega))
          have HM4 := Lib.hid hM4
          clear hM4 hs4 hMd hsd c0 c1 c2 c3
          go_wp2
          go_round
          case rel =>
            obtain ⟨T', hT', _⟩ := Mm.map_tree HTI.out p q K
            exact ⟨i + 1, by omega, by omega, by go_num, _, T', HM4.out, hT', hs5⟩
          case measure => simp [intOf]; omega
      · have hlt : i < len → 60 ≤ i := by omega
        obtain ⟨h0, hW0⟩ : ∃ x, x = M.walk 0 other := ⟨_, rfl⟩
        obtain ⟨M1, hM1⟩ : ∃ x, x = (M.unmap 0 page).1 := ⟨_, rfl⟩
        obtain ⟨⟨M2, er⟩, hM2⟩ : ∃ x, x = M1.map 0 page frame flags := ⟨_, rfl⟩
        obtain ⟨h2, hW2⟩ : ∃ x, x = M2.walk 0 other := ⟨_, rfl⟩
        obtain ⟨T1, hT1, -⟩ := Mm.unmap_tree hTi page
        rw [show ((0 : Nat) : Int) = 0 from rfl, ← hM1] at hT1
        have hA : page = other → er ≠ 0 ∨ h2 = (frame, flags, 0) := by
          rintro rfl
          have := Mm.map_walk_same hT1 page frame flags
          rw [show ((0 : Nat) : Int) = 0 from rfl, ← hM2, ← hW2] at this
          exact this.imp id (fun h => h.2)
        have hB : page ≠ other → h2 = h0 := by
          intro hne
          have e1 := Mm.unmap_walk_other hTi page other hne
          have e2 := Mm.map_walk_other hT1 page frame flags other hne
          rw [show ((0 : Nat) : Int) = 0 from rfl] at e1 e2
          rw [← hM1, ← hW0] at e1
          rw [← hM2, ← hW2, e1] at e2
          exact e2
        obtain ⟨c0, b0, g0⟩ := h0
        obtain ⟨c2, b2, g2⟩ := h2
        have HW0 := Lib.hid hW0
        have HM1 := Lib.hid hM1
        have HM2 := Lib.hid hM2
        have HW2 := Lib.hid hW2
        have HA := Lib.hid hA
        have HB := Lib.hid hB
        clear hik hTi hW0 hM1 hM2 hW2 hA hB hT1
        rcases Nat.lt_or_ge i len with hl | hl
        all_goals
          go_wp2_with fail
          refine (walk_any hMi 0 other ho).mono ?_
          rintro e w4 ⟨rfl, hs4⟩
          rw [← HW0.out]
          go_wp2_with fail
          refine (unmap_any (hMi.same0 hs4) 0 page hp).mono ?_
          rintro e w5 ⟨rfl, hM5, hs5⟩
          rw [← HM1.out] at hM5
          generalize (M.unmap 0 page).2.1 = u1
          generalize (M.unmap 0 page).2.2 = u2
          go_wp2_with fail
          refine (map_any hM5 0 page frame flags hp).mono ?_
          rintro e w6 ⟨rfl, hM6, hs6⟩
          rw [← HM2.out] at hM6 ⊢
          go_wp2_with fail
          refine (walk_any hM6 0 other ho).mono ?_
          rintro e w7 ⟨rfl, hs7⟩
          rw [← HW2.out]
          have hs8 : Same (fun k => w.heap.size ≤ k) w w7 := (((hsi.trans (hs4.mono (fun _ _ h => h.elim))).trans (hs5.mono (fun k _ h => by omega))).trans (hs6.mono (fun k _ h => by omega))).trans (hs7.mono (fun _ _ h => h.elim))
          have hs9 : Same (fun _ => False) w w7 := hs8.mono (fun k h h' => by omega)
          clear hM5 hM6 hs5 hs6 hs7 hs8 hs4
          by_cases hpo : page = other
          · subst hpo
            have hor := HA.out rfl
            clear HW0 HM1 HM2 HW2 HA HB
            by_cases her : er = 0
            · rcases hor with h | h
              · exact absurd her h
              · simp only [Prod.mk.injEq] at h
                obtain ⟨rfl, rfl, rfl⟩ := h
                subst her
                go_wp2
                go_ret
                exact ⟨rfl, hs9⟩
            · have hb : (er == 0) = false := by simpa using her
              have hb2 : (er != 0) = true := by simpa using her
              clear hor her
              go_wp2
              go_ret
              exact ⟨rfl, hs9⟩
          · have heq := HB.out hpo
            simp only [Prod.mk.injEq] at heq
            obtain ⟨rfl, rfl, rfl⟩ := heq
            have hb : (page == other) = false := by simpa using hpo
            clear HW0 HM1 HM2 HW2 HA HB hpo
            go_wp2
            go_ret
            exact ⟨rfl, hs9⟩
end Go.Proofs.Ytlbgnmcjdmdjpaa
