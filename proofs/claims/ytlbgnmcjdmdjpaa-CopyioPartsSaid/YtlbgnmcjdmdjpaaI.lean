import Derived.Test.YtlbgnmcjdmdjpaaH
import Derived.ScopeJumps
import Derived.WalkMore
namespace Go.Proofs.Ytlbgnmcjdmdjpaa
open Go.RowKit Go.Shelf
attribute [local go_sem] Oper.semAt_some

/-- A scope that the run leaves by at most one jump, forward, to one label: the rest is walked from there. -/
theorem wp_scope_once {P : Program} {a : Act} {w : World} {Q : Exit → Act → World → Prop} {c rest : Code} (l : Nat) (hf : findLabel c l = some rest)
    (first : c.wp P (Exit.jump l (fun a w => rest.wp P (Exit.noGoto Q) a w) Q) a w) : (Code.scope c).wp P Q a w := by
  refine wp_scope_jumps l _ (fun _ _ => 0) hf first ?_
  intro a w h b k cs
  obtain ⟨e, a', w', hq, harr⟩ := h b k cs
  refine ⟨e, a', w', ?_, harr⟩
  cases e <;> first | exact hq | exact hq.elim

def Mm.walk (M : Mm) (root page : Int) : Int × Int × Int :=
  if M.check root page ≠ 0 then (0, 0, M.check root page)
  else if (M.get root (page.toNat / 16)).1 = 0 then (0, 0, 30)
  else if (M.get (M.get root (page.toNat / 16)).2 (page.toNat % 16)).1 = 0 then (0, 0, 30)
  else ((M.get (M.get root (page.toNat / 16)).2 (page.toNat % 16)).2, (M.get (M.get root (page.toNat / 16)).2 (page.toNat % 16)).1, 0)

theorem walk_nil (w : World) (root page : Int) (hp : In64 page) : Calls Try.prog 26 #[.pointer none, .int .i64 root, .int .i64 page] w fun e w' => e = .returned (.tuple #[.int .i64 0, .int .i64 0, .int .i64 1]) ∧ Same (fun _ => False) w w' := by
  go_enter Try.func26, Try.ntmps26
  go_wp2
  refine wp_scope_once 0 rfl ?_
  go_wp2_with fail
  refine (of_any _ page hp).mono ?_
  rintro e w' ⟨rfl, hs⟩
  go_wp2_with fail
  refine (check_nil _ root page).mono ?_
  rintro e w' ⟨rfl, rfl⟩
  go_wp2
  simp only [Exit.jump]
  go_ret3
  exact ⟨rfl, (((same_alloc _).alloc _).trans hs).alloc _⟩

set_option maxHeartbeats 1600000 in
theorem walk_any {w : World} {f fb : Nat} {M : Mm} (h : MemAt w f fb M) (root page : Int) (hp : In64 page) :
    Calls Try.prog 26 #[.pointer (some ⟨f, 0, none⟩), .int .i64 root, .int .i64 page] w fun e w' => e = .returned (.tuple #[.int .i64 (M.walk root page).1, .int .i64 (M.walk root page).2.1, .int .i64 (M.walk root page).2.2]) ∧ Same (fun _ => False) w w' := by
  by_cases hc : M.check root page = 0
  · have hpg : 0 ≤ page ∧ page ≤ 255 := by
      unfold Mm.check at hc
      split at hc
      · split at hc
        · assumption
        · omega
      · omega
    obtain ⟨p, rfl⟩ := Int.eq_ofNat_of_zero_le hpg.1
    have h16 : ((p : Int).tdiv 16) = ((p / 16 : Nat) : Int) := by rw [Int.tdiv_eq_ediv_of_nonneg (by omega)]; omega
    have hm16 : ((p : Int).tmod 16) = ((p % 16 : Nat) : Int) := by rw [Int.tmod_eq_emod_of_nonneg (by omega)]; omega
    have hl : p / 16 < 16 := by omega
    have hl2 : p % 16 < 16 := by omega
    have hw : M.walk root p = if (M.get root (p / 16)).1 = 0 then (0, 0, 30)
        else if (M.get (M.get root (p / 16)).2 (p % 16)).1 = 0 then (0, 0, 30)
        else ((M.get (M.get root (p / 16)).2 (p % 16)).2, (M.get (M.get root (p / 16)).2 (p % 16)).1, 0) := by
      simp only [Mm.walk, hc, ne_eq, not_true_eq_false, if_false, Int.toNat_natCast]
    rw [hw]
    have HC := Lib.hid hc
    have ho := of_any
    clear hw hpg
    have hgt := fun w' hM => get_any (w := w') (f := f) (fb := fb) (M := M) hM root (p / 16) hl
    obtain ⟨⟨tf, tn⟩, hT⟩ : ∃ x, x = M.get root (p / 16) := ⟨_, rfl⟩
    rw [← hT] at hgt ⊢
    have hgl := fun w' hM => get_any (w := w') (f := f) (fb := fb) (M := M) hM tn (p % 16) hl2
    simp only
    obtain ⟨⟨lf, ln⟩, hL⟩ : ∃ x, x = M.get tn (p % 16) := ⟨_, rfl⟩
    rw [← hL] at hgl ⊢
    simp only at hgt hgl ⊢
    have c16 : ((p / 16 : Nat) : Int) = (p : Int) / 16 := by omega
    have cm16 : ((p % 16 : Nat) : Int) = (p : Int) % 16 := by omega
    rw [c16] at hgt h16
    rw [cm16] at hgl hm16
    have HT := Lib.hid hT
    have HL := Lib.hid hL
    have HO := Lib.hid ho
    have HGT := Lib.hid hgt
    have HGL := Lib.hid hgl
    clear hT hL ho hc hgt hgl c16 cm16
    go_enter Try.func26, Try.ntmps26
    go_wp2
    refine wp_scope_once 0 rfl ?_
    go_wp2_with fail
    refine (HO.out _ _ hp).mono ?_
    rintro e w1 ⟨rfl, hs⟩
    rw [h16, hm16]
    have d0 := hs.cell (a := ⟨w.heap.size, 0, none⟩) (v := .int .i64 0) (by simp) (by simp)
    have d1 := hs.cell (a := ⟨w.heap.size, 1, none⟩) (v := .int .i64 0) (by simp) (by simp)
    have d2 := hs.cell (a := ⟨w.heap.size + 1, 0, none⟩) (v := .int .i64 0) (by simp) (by simp)
    have d3 := hs.cell (a := ⟨w.heap.size + 1, 1, none⟩) (v := .int .i64 0) (by simp) (by simp)
    have f0 := hs.unfrozen (a := ⟨w.heap.size, 0, none⟩) (v := .int .i64 0) (by simp) (by simp) (by simp)
    have f1 := hs.unfrozen (a := ⟨w.heap.size, 1, none⟩) (v := .int .i64 0) (by simp) (by simp) (by simp)
    have f2 := hs.unfrozen (a := ⟨w.heap.size + 1, 0, none⟩) (v := .int .i64 0) (by simp) (by simp) (by simp)
    have f3 := hs.unfrozen (a := ⟨w.heap.size + 1, 1, none⟩) (v := .int .i64 0) (by simp) (by simp) (by simp)
    have hz1 := hs.size
    simp only [World.size_alloc] at hz1
    have hs2 := (((same_alloc _).alloc _).trans hs).alloc (.cells #[.int .i64 ((p : Int) / 16), .int .i64 ((p : Int) % 16)] 114)
    go_wp2_with fail
    refine (check_any (h.same0 hs2) root p).mono ?_
    rintro e w2 ⟨rfl, hs3⟩
    rw [HC.out]
    have hs4 : Same (fun _ => False) w1 w2 := (same_alloc _).trans hs3
    have g0 := hs3.cell (a := ⟨w1.heap.size, 0, none⟩) (v := .int .i64 ((p : Int) / 16)) (by simp) (by simp)
    have g1 := hs3.cell (a := ⟨w1.heap.size, 1, none⟩) (v := .int .i64 ((p : Int) % 16)) (by simp) (by simp)
    have hz2 := hs4.size
    have hz3 := World.block_lt_of_cell? _ _ g0
    have d0' := hs4.cell d0 (by simp)
    have d1' := hs4.cell d1 (by simp)
    have d2' := hs4.cell d2 (by simp)
    have d3' := hs4.cell d3 (by simp)
    have f0' := hs4.unfrozen d0 f0 (by simp)
    have f1' := hs4.unfrozen d1 f1 (by simp)
    have f2' := hs4.unfrozen d2 f2 (by simp)
    have f3' := hs4.unfrozen d3 f3 (by simp)
    have hs5 := hs2.trans hs3
    clear d0 d1 d2 d3 f0 f1 f2 f3 hs hs2 hs3 hs4
    go_wp2_with fail
    refine (HGT.out _ (h.same0 hs5)).mono ?_
    rintro e w3 ⟨rfl, hs6⟩
    have k0 := hs6.cell d0' (by simp)
    have k1 := hs6.cell d1' (by simp)
    have k2 := hs6.cell d2' (by simp)
    have k3 := hs6.cell d3' (by simp)
    have n0 := hs6.unfrozen d0' f0' (by simp)
    have n1 := hs6.unfrozen d1' f1' (by simp)
    have n2 := hs6.unfrozen d2' f2' (by simp)
    have n3 := hs6.unfrozen d3' f3' (by simp)
    have m0 := hs6.cell g0 (by simp)
    have m1 := hs6.cell g1 (by simp)
    have hz4 := hs6.size
    have hs7 := hs5.trans hs6
    have hM3 := h.same0 hs7
    clear d0' d1' d2' d3' f0' f1' f2' f3' hs5 hs6 g0 g1
    by_cases htf : tf = 0
    · subst htf
      have HS7 := Lib.hid hs7
      go_wp2
      go_step3
      refine ⟨rfl, ?_⟩
      go_wp2
      simp only [Exit.noGoto]
      go_ret3
      exact ⟨by simp, (((HS7.out.mono (T := fun k => w.heap.size ≤ k) (fun _ _ h => h.elim)).setCell _ (.inr (Nat.le_refl _))).setCell _ (.inr (Nat.le_refl _))).mono (fun k h h' => by omega)⟩
    · have htb : (tf == 0) = false := by simpa using htf
      have HTF := Lib.hid htf
      clear htf
      have q1 : Same (fun k => k = w.heap.size) w3 ((w3.setCell ⟨w.heap.size, 0, none⟩ (.int .i64 tf)).setCell ⟨w.heap.size, 1, none⟩ (.int .i64 tn)) := ((Same.refl (fun k => k = w.heap.size) w3).setCell (a := ⟨w.heap.size, 0, none⟩) _ (.inr rfl)).setCell (a := ⟨w.heap.size, 1, none⟩) _ (.inr rfl)
      have hM4 := hM3.same q1 (by have := h.lt.1; omega) (by have := h.lt.2; omega)
      have hs8 := (hs7.mono (T := fun k => w.heap.size ≤ k) (fun _ _ h => h.elim)).trans (q1.mono (T := fun k => w.heap.size ≤ k) (fun k _ h => by omega))
      go_wp2_with fail
      refine (HGL.out _ hM4).mono ?_
      rintro e w5 ⟨rfl, hs9⟩
      have hsA := q1.trans (hs9.mono (fun _ _ h => h.elim))
      have p2 := hsA.cell k2 (by simp)
      have p3 := hsA.cell k3 (by simp)
      have r2 := hsA.unfrozen k2 n2 (by simp)
      have r3 := hsA.unfrozen k3 n3 (by simp)
      have hsB := hs8.trans (hs9.mono (fun _ _ h => h.elim))
      have hsC : Same (fun _ => False) w ((w5.setCell ⟨w.heap.size + 1, 0, none⟩ (.int .i64 lf)).setCell ⟨w.heap.size + 1, 1, none⟩ (.int .i64 ln)) := ((hsB.setCell _ (.inr (by simp))).setCell _ (.inr (by simp))).mono (fun k h h' => by omega)
      clear k0 k1 k2 k3 n0 n1 n2 n3 m0 m1 hM3 hM4 q1 hs7 hs8 hs9 hsA hsB
      by_cases hlf : lf = 0
      · subst hlf
        go_wp2
        go_step3
        go_wp2
        simp only [Exit.jump]
        go_ret3
        exact ⟨by simp [HTF.out], hsC⟩
      · have hlb : (lf == 0) = false := by simpa using hlf
        have HLF := Lib.hid hlf
        clear hlf
        go_wp2
        go_region
        go_wp2
        simp only [Exit.jump]
        go_ret3
        exact ⟨by simp [HTF.out, HLF.out], hsC.drew⟩
  · have hw : M.walk root page = (0, 0, M.check root page) := by simp only [Mm.walk, ne_eq, hc, not_false_eq_true, if_true]
    have hb : (M.check root page == 0) = false := by simpa using hc
    rw [hw]
    clear hw hc
    go_enter Try.func26, Try.ntmps26
    go_wp2
    refine wp_scope_once 0 rfl ?_
    go_wp2_with fail
    refine (of_any _ page hp).mono ?_
    rintro e w' ⟨rfl, hs⟩
    have hs2 := (((same_alloc _).alloc _).trans hs).alloc (.cells #[.int .i64 (page.tdiv 16), .int .i64 (page.tmod 16)] 114)
    go_wp2_with fail
    refine (check_any (h.same0 hs2) root page).mono ?_
    rintro e w2 ⟨rfl, hs3⟩
    go_wp2
    simp only [Exit.jump]
    go_ret3
    exact ⟨rfl, hs2.trans hs3⟩
end Go.Proofs.Ytlbgnmcjdmdjpaa
