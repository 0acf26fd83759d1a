/- The plain law of page tables: mapping, unmapping, dropping, the list of pages. Conditions: none.
The walk of Pages. Conditions: the memory's form.
A row of acts, each of four ints; the law of two pages apart. Conditions: none.
The reference's memory: used, Refs, right, Read, entry. Conditions: its form.
The reference's memory: Read, entry, Write, set. Conditions: its form.
The reference's memory: set, Alloc, New. Conditions: its form.
The reference's memory: New. Conditions: its form.
The reference's Map. Conditions: the memory's form, entries of no flags being empty. -/
import Derived.Test.YtlbgnmcjdmdjpaaK1
import Derived.ScopeJumps
import Derived.WalkMore
import Derived.StillTailTactics
import Derived.Laws.DeepStrings4
import Derived.BigRegion
set_option linter.unusedSimpArgs false
set_option linter.unusedVariables false
namespace Go.Proofs.Ytlbgnmcjdmdjpaa
open Go.RowKit Go.Shelf
attribute [local go_sem] Oper.semAt_some

theorem clo104 (w : World) (n most : Int) (x : Addr) (hx : w.cell? x = some (.int .i64 most)) :
    Calls Try.prog 104 #[.int .i64 n, .pointer (some x)] w fun e w' => e = .returned (.bool (decide (n < 0) || decide (most < n))) ∧ w = w' := by
  by_cases h : n < 0
  · have hb : decide (n < 0) = true := by simpa using h
    go_enter Try.func104, Try.ntmps104
    go_wp2
    go_ret
    exact ⟨by simp [h], rfl⟩
  · have hb : decide (n < 0) = false := by simpa using h
    go_enter Try.func104, Try.ntmps104
    go_wp2
    go_ret
    exact ⟨by simp [hb], rfl⟩
set_option maxHeartbeats 800000 in
theorem index1 (w : World) (b : Nat) (n most : Int) (x : Addr) (hx : w.cell? x = some (.int .i64 most)) (hc : w.cell? ⟨b, 0, none⟩ = some (.int .i64 n)) :
    Calls Try.prog 116 #[.slice (some ⟨b, 0, none⟩) 1 1, .func (.func 104) #[] #[.pointer (some x)]] w fun e w' => e = .returned (.int .i64 (if n < 0 ∨ most < n then 0 else -1)) ∧ w = w' := by
  by_cases h : n < 0 ∨ most < n
  · have hb : (decide (n < 0) || decide (most < n)) = true := by simpa using h
    rw [if_pos h]
    clear h
    go_enter Try.func116, Try.ntmps116
    go_wp2
    refine wp_loop_rounds 1 ?_
    rw [rounds_succ]
    go_wp2_with fail
    refine (clo104 _ _ _ _ hx).mono ?_
    rintro e w' ⟨rfl, rfl⟩
    rw [hb]
    go_wp2
    go_ret
    exact ⟨rfl, rfl⟩
  · have hb : (decide (n < 0) || decide (most < n)) = false := by simp; omega
    rw [if_neg h]
    clear h
    go_enter Try.func116, Try.ntmps116
    go_wp2
    refine wp_loop_rounds 2 ?_
    rw [rounds_succ]
    go_wp2_with fail
    refine (clo104 _ _ _ _ hx).mono ?_
    rintro e w' ⟨rfl, rfl⟩
    rw [hb]
    go_wp2
    rw [rounds_succ]
    go_wp2
    go_ret
    exact ⟨rfl, rfl⟩
theorem contains1 (w : World) (b : Nat) (n most : Int) (x : Addr) (hx : w.cell? x = some (.int .i64 most)) (hc : w.cell? ⟨b, 0, none⟩ = some (.int .i64 n)) :
    Calls Try.prog 91 #[.slice (some ⟨b, 0, none⟩) 1 1, .func (.func 104) #[] #[.pointer (some x)]] w fun e w' => e = .returned (.bool (decide (n < 0 ∨ most < n))) ∧ w = w' := by
  have H := Lib.hid (index1 w b n most x hx hc)
  by_cases h : n < 0 ∨ most < n
  all_goals
    simp only [h, if_true, if_false] at H
    simp only [h, decide_true, decide_false]
    go_enter Try.func91, Try.ntmps91
    go_wp2_with fail
    refine H.out.mono ?_
    rintro e w' ⟨rfl, rfl⟩
    go_wp2
    go_ret
    exact ⟨rfl, rfl⟩
theorem inside1 (w : World) (b : Nat) (most n : Int) (hc : w.cell? ⟨b, 0, none⟩ = some (.int .i64 n)) :
    Calls Try.prog 61 #[.int .i64 most, .slice (some ⟨b, 0, none⟩) 1 1] w fun e w' => e = .returned (.bool (decide (0 ≤ n ∧ n ≤ most))) ∧ Same (fun _ => False) w w' := by
  have hs : Same (fun _ => False) w (w.alloc (.cells #[.int .i64 most] 3)) := same_alloc _
  have H := Lib.hid (contains1 (w.alloc (.cells #[.int .i64 most] 3)) b n most ⟨w.heap.size, 0, none⟩ (by simp) (hs.cell hc (by simp)))
  have e1 : decide (0 ≤ n ∧ n ≤ most) = !decide (n < 0 ∨ most < n) := by
    by_cases h : n < 0 ∨ most < n
    · rw [decide_eq_true h, decide_eq_false (by omega)]; rfl
    · rw [decide_eq_false h, decide_eq_true (by omega)]; rfl
  rw [e1]
  generalize decide (n < 0 ∨ most < n) = d at H
  go_enter Try.func61, Try.ntmps61
  go_wp2_with fail
  refine H.out.mono ?_
  rintro e w' ⟨rfl, rfl⟩
  go_wp2
  go_ret
  exact ⟨rfl, hs⟩
end Go.Proofs.Ytlbgnmcjdmdjpaa
namespace Go.Proofs.Ytlbgnmcjdmdjpaa
open Go.RowKit Go.Shelf
attribute [local go_sem] Oper.semAt_some

theorem loadVar114 (w : World) (b o : Nat) (x y : Value) (h : w.cell? ⟨b, o, none⟩ = some x) (h1 : w.cell? ⟨b, o + 1, none⟩ = some y) : (loadVar 114 ⟨b, o, none⟩).run Try.prog w = .ok (.agg #[x, y]) w := by simp [go_sem, h, h1]
abbrev In64 (p : Int) : Prop := -9223372036854775808 ≤ p ∧ p ≤ 9223372036854775807
theorem of_any (w : World) (p : Int) (hp : In64 p) : Calls Try.prog 62 #[.int .i64 p] w fun e w' => e = .returned (.agg #[.int .i64 (p.tdiv 16), .int .i64 (p.tmod 16)]) ∧ Same (fun _ => False) w w' := by
  go_enter Try.func62, Try.ntmps62
  go_wp2
  exact bodyPost_ret (results_cell1 rfl (by rfl) (loadVar114 _ _ _ _ _ (by simp) (by simp))) rfl ⟨rfl, (same_alloc _)⟩

def Mm.check (M : Mm) (root page : Int) : Int := if M.isUsed root = true then (if 0 ≤ page ∧ page ≤ 255 then 0 else 2) else 10
theorem Mm.refs_zero (M : Mm) (a : Int) : M.refs a = 0 ↔ M.isUsed a = false := by
  unfold Mm.refs
  cases hu : M.isUsed a with
  | false => simp
  | true =>
    obtain ⟨k, rfl, hk, hR⟩ := Mm.used_iff hu
    simp; omega
theorem check_nil (w : World) (root page : Int) : Calls Try.prog 58 #[.pointer none, .int .i64 root, .int .i64 page] w fun e w' => e = .returned (.int .i64 1) ∧ w = w' := by
  go_enter Try.func58, Try.ntmps58
  go_wp2
  go_ret
  exact ⟨rfl, rfl⟩
theorem check_any {w : World} {f fb : Nat} {M : Mm} (h : MemAt w f fb M) (root page : Int) :
    Calls Try.prog 58 #[.pointer (some ⟨f, 0, none⟩), .int .i64 root, .int .i64 page] w fun e w' => e = .returned (.int .i64 (M.check root page)) ∧ Same (fun _ => False) w w' := by
  cases hu : M.isUsed root with
  | false =>
    have hr := (M.refs_zero root).2 hu
    have hc : M.check root page = 10 := by simp [Mm.check, hu]
    rw [hc]
    go_enter Try.func58, Try.ntmps58
    go_wp2_with fail
    refine (refs_any h root).mono ?_
    rintro e w' ⟨rfl, hs⟩
    rw [hr]
    go_wp2
    go_ret
    exact ⟨rfl, hs⟩
  | true =>
    have hr : (M.refs root == 0) = false := by
      rw [beq_eq_false_iff_ne]
      intro h0
      rw [(M.refs_zero root).1 h0] at hu; cases hu
    by_cases hp : 0 ≤ page ∧ page ≤ 255
    · have hc : M.check root page = 0 := by simp [Mm.check, hu, hp]
      have hd : decide (0 ≤ page ∧ page ≤ 255) = true := decide_eq_true hp
      rw [hc]
      clear hp
      go_enter Try.func58, Try.ntmps58
      go_wp2_with fail
      refine (refs_any h root).mono ?_
      rintro e w' ⟨rfl, hs⟩
      go_wp2_with fail
      refine (inside1 _ _ 255 page (by simp)).mono ?_
      rintro e w2 ⟨rfl, hs2⟩
      rw [hd]
      go_wp2
      go_ret
      exact ⟨rfl, (hs.trans (same_alloc _)).trans hs2⟩
    · have hc : M.check root page = 2 := by simp [Mm.check, hu, hp]
      have hd : decide (0 ≤ page ∧ page ≤ 255) = false := decide_eq_false hp
      rw [hc]
      clear hp
      go_enter Try.func58, Try.ntmps58
      go_wp2_with fail
      refine (refs_any h root).mono ?_
      rintro e w' ⟨rfl, hs⟩
      go_wp2_with fail
      refine (inside1 _ _ 255 page (by simp)).mono ?_
      rintro e w2 ⟨rfl, hs2⟩
      rw [hd]
      go_wp2
      go_ret
      exact ⟨rfl, (hs.trans (same_alloc _)).trans hs2⟩
end Go.Proofs.Ytlbgnmcjdmdjpaa
namespace Go.Proofs.Ytlbgnmcjdmdjpaa
open Go.RowKit Go.Shelf
attribute [local go_sem] Oper.semAt_some

/-- A scope that the run leaves by at most one jump, forward, to one label: the rest is walked from there. -/
theorem wp_scope_once {P : Program} {a : Act} {w : World} {Q : Exit → Act → World → Prop} {c rest : Code} (l : Nat) (hf : findLabel c l = some rest)
    (first : c.wp P (Exit.jump l (fun a w => rest.wp P (Exit.noGoto Q) a w) Q) a w) : (Code.scope c).wp P Q a w := by
  refine wp_scope_jumps l _ (fun _ _ => 0) hf first ?_
  intro a w h b k cs
  obtain ⟨e, a', w', hq, harr⟩ := h b k cs
  refine ⟨e, a', w', ?_, harr⟩
  cases e <;> first | exact hq | exact hq.elim

def Mm.walk (M : Mm) (root page : Int) : Int × Int × Int :=
  if M.check root page ≠ 0 then (0, 0, M.check root page)
  else if (M.get root (page.toNat / 16)).1 = 0 then (0, 0, 30)
  else if (M.get (M.get root (page.toNat / 16)).2 (page.toNat % 16)).1 = 0 then (0, 0, 30)
  else ((M.get (M.get root (page.toNat / 16)).2 (page.toNat % 16)).2, (M.get (M.get root (page.toNat / 16)).2 (page.toNat % 16)).1, 0)

theorem walk_nil (w : World) (root page : Int) (hp : In64 page) : Calls Try.prog 26 #[.pointer none, .int .i64 root, .int .i64 page] w fun e w' => e = .returned (.tuple #[.int .i64 0, .int .i64 0, .int .i64 1]) ∧ Same (fun _ => False) w w' := by
  go_enter Try.func26, Try.ntmps26
  go_wp2
  refine wp_scope_once 0 rfl ?_
  go_wp2_with fail
  refine (of_any _ page hp).mono ?_
  rintro e w' ⟨rfl, hs⟩
  go_wp2_with fail
  refine (check_nil _ root page).mono ?_
  rintro e w' ⟨rfl, rfl⟩
  go_wp2
  simp only [Exit.jump]
  go_ret3
  exact ⟨rfl, (((same_alloc _).alloc _).trans hs).alloc _⟩

set_option maxHeartbeats 1600000 in
theorem walk_any {w : World} {f fb : Nat} {M : Mm} (h : MemAt w f fb M) (root page : Int) (hp : In64 page) :
    Calls Try.prog 26 #[.pointer (some ⟨f, 0, none⟩), .int .i64 root, .int .i64 page] w fun e w' => e = .returned (.tuple #[.int .i64 (M.walk root page).1, .int .i64 (M.walk root page).2.1, .int .i64 (M.walk root page).2.2]) ∧ Same (fun _ => False) w w' := by
  by_cases hc : M.check root page = 0
  · have hpg : 0 ≤ page ∧ page ≤ 255 := by
      unfold Mm.check at hc
      split at hc
      · split at hc
        · assumption
        · omega
      · omega
    obtain ⟨p, rfl⟩ := Int.eq_ofNat_of_zero_le hpg.1
    have h16 : ((p : Int).tdiv 16) = ((p / 16 : Nat) : Int) := by rw [Int.tdiv_eq_ediv_of_nonneg (by omega)]; omega
    have hm16 : ((p : Int).tmod 16) = ((p % 16 : Nat) : Int) := by rw [Int.tmod_eq_emod_of_nonneg (by omega)]; omega
    have hl : p / 16 < 16 := by omega
    have hl2 : p % 16 < 16 := by omega
    have hw : M.walk root p = if (M.get root (p / 16)).1 = 0 then (0, 0, 30)
        else if (M.get (M.get root (p / 16)).2 (p % 16)).1 = 0 then (0, 0, 30)
        else ((M.get (M.get root (p / 16)).2 (p % 16)).2, (M.get (M.get root (p / 16)).2 (p % 16)).1, 0) := by
      simp only [Mm.walk, hc, ne_eq, not_true_eq_false, if_false, Int.toNat_natCast]
    rw [hw]
    have HC := Lib.hid hc
    have ho := of_any
    clear hw hpg
    have hgt := fun w' hM => get_any (w := w') (f := f) (fb := fb) (M := M) hM root (p / 16) hl
    obtain ⟨⟨tf, tn⟩, hT⟩ : ∃ x, x = M.get root (p / 16) := ⟨_, rfl⟩
    rw [← hT] at hgt ⊢
    have hgl := fun w' hM => get_any (w := w') (f := f) (fb := fb) (M := M) hM tn (p % 16) hl2
    simp only
    obtain ⟨⟨lf, ln⟩, hL⟩ : ∃ x, x = M.get tn (p % 16) := ⟨_, rfl⟩
    rw [← hL] at hgl ⊢
    simp only at hgt hgl ⊢
    have c16 : ((p / 16 : Nat) : Int) = (p : Int) / 16 := by omega
    have cm16 : ((p % 16 : Nat) : Int) = (p : Int) % 16 := by omega
    rw [c16] at hgt h16
    rw [cm16] at hgl hm16
    have HT := Lib.hid hT
    have HL := Lib.hid hL
    have HO := Lib.hid ho
    have HGT := Lib.hid hgt
    have HGL := Lib.hid hgl
    clear hT hL ho hc hgt hgl c16 cm16
    go_enter Try.func26, Try.ntmps26
    go_wp2
    refine wp_scope_once 0 rfl ?_
    go_wp2_with fail
    refine (HO.out _ _ hp).mono ?_
    rintro e w1 ⟨rfl, hs⟩
    rw [h16, hm16]
    have d0 := hs.cell (a := ⟨w.heap.size, 0, none⟩) (v := .int .i64 0) (by simp) (by simp)
    have d1 := hs.cell (a := ⟨w.heap.size, 1, none⟩) (v := .int .i64 0) (by simp) (by simp)
    have d2 := hs.cell (a := ⟨w.heap.size + 1, 0, none⟩) (v := .int .i64 0) (by simp) (by simp)
    have d3 := hs.cell (a := ⟨w.heap.size + 1, 1, none⟩) (v := .int .i64 0) (by simp) (by simp)
    have f0 := hs.unfrozen (a := ⟨w.heap.size, 0, none⟩) (v := .int .i64 0) (by simp) (by simp) (by simp)
    have f1 := hs.unfrozen (a := ⟨w.heap.size, 1, none⟩) (v := .int .i64 0) (by simp) (by simp) (by simp)
    have f2 := hs.unfrozen (a := ⟨w.heap.size + 1, 0, none⟩) (v := .int .i64 0) (by simp) (by simp) (by simp)
    have f3 := hs.unfrozen (a := ⟨w.heap.size + 1, 1, none⟩) (v := .int .i64 0) (by simp) (by simp) (by simp)
    have hz1 := hs.size
    simp only [World.size_alloc] at hz1
    have hs2 := (((same_alloc _).alloc _).trans hs).alloc (.cells #[.int .i64 ((p : Int) / 16), .int .i64 ((p : Int) % 16)] 114)
    go_wp2_with fail
    refine (check_any (h.same0 hs2) root p).mono ?_
    rintro e w2 ⟨rfl, hs3⟩
    rw [HC.out]
    have hs4 : Same (fun _ => False) w1 w2 := (same_alloc _).trans hs3
    have g0 := hs3.cell (a := ⟨w1.heap.size, 0, none⟩) (v := .int .i64 ((p : Int) / 16)) (by simp) (by simp)
    have g1 := hs3.cell (a := ⟨w1.heap.size, 1, none⟩) (v := .int .i64 ((p : Int) % 16)) (by simp) (by simp)
    have hz2 := hs4.size
    have hz3 := World.block_lt_of_cell? _ _ g0
    have d0' := hs4.cell d0 (by simp)
    have d1' := hs4.cell d1 (by simp)
    have d2' := hs4.cell d2 (by simp)
    have d3' := hs4.cell d3 (by simp)
    have f0' := hs4.unfrozen d0 f0 (by simp)
    have f1' := hs4.unfrozen d1 f1 (by simp)
    have f2' := hs4.unfrozen d2 f2 (by simp)
    have f3' := hs4.unfrozen d3 f3 (by simp)
    have hs5 := hs2.trans hs3
    clear d0 d1 d2 d3 f0 f1 f2 f3 hs hs2 hs3 hs4
    go_wp2_with fail
    refine (HGT.out _ (h.same0 hs5)).mono ?_
    rintro e w3 ⟨rfl, hs6⟩
    have k0 := hs6.cell d0' (by simp)
    have k1 := hs6.cell d1' (by simp)
    have k2 := hs6.cell d2' (by simp)
    have k3 := hs6.cell d3' (by simp)
    have n0 := hs6.unfrozen d0' f0' (by simp)
    have n1 := hs6.unfrozen d1' f1' (by simp)
    have n2 := hs6.unfrozen d2' f2' (by simp)
    have n3 := hs6.unfrozen d3' f3' (by simp)
    have m0 := hs6.cell g0 (by simp)
    have m1 := hs6.cell g1 (by simp)
    have hz4 := hs6.size
    have hs7 := hs5.trans hs6
    have hM3 := h.same0 hs7
    clear d0' d1' d2' d3' f0' f1' f2' f3' hs5 hs6 g0 g1
    by_cases htf : tf = 0
    · subst htf
      have HS7 := Lib.hid hs7
      go_wp2
      go_step3
      refine ⟨rfl, ?_⟩
      go_wp2
      simp only [Exit.noGoto]
      go_ret3
      exact ⟨by simp, (((HS7.out.mono (T := fun k => w.heap.size ≤ k) (fun _ _ h => h.elim)).setCell _ (.inr (Nat.le_refl _))).setCell _ (.inr (Nat.le_refl _))).mono (fun k h h' => by omega)⟩
    · have htb : (tf == 0) = false := by simpa using htf
      have HTF := Lib.hid htf
      clear htf
      have q1 : Same (fun k => k = w.heap.size) w3 ((w3.setCell ⟨w.heap.size, 0, none⟩ (.int .i64 tf)).setCell ⟨w.heap.size, 1, none⟩ (.int .i64 tn)) := ((Same.refl (fun k => k = w.heap.size) w3).setCell (a := ⟨w.heap.size, 0, none⟩) _ (.inr rfl)).setCell (a := ⟨w.heap.size, 1, none⟩) _ (.inr rfl)
      have hM4 := hM3.same q1 (by have := h.lt.1; omega) (by have := h.lt.2; omega)
      have hs8 := (hs7.mono (T := fun k => w.heap.size ≤ k) (fun _ _ h => h.elim)).trans (q1.mono (T := fun k => w.heap.size ≤ k) (fun k _ h => by omega))
      go_wp2_with fail
      refine (HGL.out _ hM4).mono ?_
      rintro e w5 ⟨rfl, hs9⟩
      have hsA := q1.trans (hs9.mono (fun _ _ h => h.elim))
      have p2 := hsA.cell k2 (by simp)
      have p3 := hsA.cell k3 (by simp)
      have r2 := hsA.unfrozen k2 n2 (by simp)
      have r3 := hsA.unfrozen k3 n3 (by simp)
      have hsB := hs8.trans (hs9.mono (fun _ _ h => h.elim))
      have hsC : Same (fun _ => False) w ((w5.setCell ⟨w.heap.size + 1, 0, none⟩ (.int .i64 lf)).setCell ⟨w.heap.size + 1, 1, none⟩ (.int .i64 ln)) := ((hsB.setCell _ (.inr (by simp))).setCell _ (.inr (by simp))).mono (fun k h h' => by omega)
      clear k0 k1 k2 k3 n0 n1 n2 n3 m0 m1 hM3 hM4 q1 hs7 hs8 hs9 hsA hsB
      by_cases hlf : lf = 0
      · subst hlf
        go_wp2
        go_step3
        go_wp2
        simp only [Exit.jump]
        go_ret3
        exact ⟨by simp [HTF.out], hsC⟩
      · have hlb : (lf == 0) = false := by simpa using hlf
        have HLF := Lib.hid hlf
        clear hlf
        go_wp2
        go_region
        go_wp2
        simp only [Exit.jump]
        go_ret3
        exact ⟨by simp [HTF.out, HLF.out], hsC.drew⟩
  · have hw : M.walk root page = (0, 0, M.check root page) := by simp only [Mm.walk, ne_eq, hc, not_false_eq_true, if_true]
    have hb : (M.check root page == 0) = false := by simpa using hc
    rw [hw]
    clear hw hc
    go_enter Try.func26, Try.ntmps26
    go_wp2
    refine wp_scope_once 0 rfl ?_
    go_wp2_with fail
    refine (of_any _ page hp).mono ?_
    rintro e w' ⟨rfl, hs⟩
    have hs2 := (((same_alloc _).alloc _).trans hs).alloc (.cells #[.int .i64 (page.tdiv 16), .int .i64 (page.tmod 16)] 114)
    go_wp2_with fail
    refine (check_any (h.same0 hs2) root page).mono ?_
    rintro e w2 ⟨rfl, hs3⟩
    go_wp2
    simp only [Exit.jump]
    go_ret3
    exact ⟨rfl, hs2.trans hs3⟩
end Go.Proofs.Ytlbgnmcjdmdjpaa
namespace Go.Proofs.Ytlbgnmcjdmdjpaa
open Go.RowKit Go.Shelf
attribute [local go_sem] Oper.semAt_some

/-- The least frame that nobody has. -/
def Mm.least (M : Mm) : Option Nat := (List.range M.n).find? fun i => decide (M.R i ≤ 0)
theorem Mm.least_none {M : Mm} (h : ∀ i, i < M.n → 0 < M.R i) : M.least = none := by
  unfold Mm.least
  rw [List.find?_eq_none]
  intro x hx
  have := h x (List.mem_range.1 hx)
  simp; omega
theorem Mm.least_some {M : Mm} {k : Nat} (hk : k < M.n) (hz : M.R k ≤ 0) (h : ∀ i, i < k → 0 < M.R i) : M.least = some k := by
  unfold Mm.least
  rw [List.find?_range_eq_some]
  refine ⟨by simpa using hz, List.mem_range.2 hk, fun j hj => ?_⟩
  have := h j hj
  simp; omega
/-- What Map does to a root's entry or to a table's. -/
def Mm.mapLow (M : Mm) (t : Int) (i fl fr : Nat) : Mm × Int := if M.get t i = (0, 0) then (M.put t i fl fr, 0) else (M, 20)
def Mm.map (M : Mm) (root page frame flags : Int) : Mm × Int :=
  if M.check root page ≠ 0 then (M, M.check root page)
  else if ¬ ((0 ≤ frame ∧ frame ≤ 255) ∧ (0 ≤ flags ∧ flags ≤ 7) ∧ flags % 2 = 1) then (M, 2)
  else if M.get root (page.toNat / 16) = (0, 0) then match M.least with
    | none => (M, 11)
    | some k => ((M.alloc k).put root (page.toNat / 16) 1 k).mapLow k (page.toNat % 16) flags.toNat frame.toNat
  else M.mapLow (M.get root (page.toNat / 16)).2 (page.toNat % 16) flags.toNat frame.toNat

theorem map_nil (w : World) (root page frame flags : Int) : Calls Try.prog 24 #[.pointer none, .int .i64 root, .int .i64 page, .int .i64 frame, .int .i64 flags] w fun e w' => e = .returned (.int .i64 1) ∧ w = w' := by
  go_enter Try.func24, Try.ntmps24
  go_wp2_with fail
  refine (check_nil _ root page).mono ?_
  rintro e w' ⟨rfl, rfl⟩
  go_wp2
  go_ret
  exact ⟨rfl, rfl⟩

set_option maxHeartbeats 3200000 in
set_option maxRecDepth 8192 in
theorem map_any {w : World} {f fb : Nat} {M : Mm} (h : MemAt w f fb M) (root page frame flags : Int) (hp : In64 page) :
    Calls Try.prog 24 #[.pointer (some ⟨f, 0, none⟩), .int .i64 root, .int .i64 page, .int .i64 frame, .int .i64 flags] w fun e w' => e = .returned (.int .i64 (M.map root page frame flags).2) ∧ MemAt w' f fb (M.map root page frame flags).1 ∧ Same (· = fb) w w' := by
  by_cases hc : M.check root page = 0
  · by_cases hfr : 0 ≤ frame ∧ frame ≤ 255
    · by_cases hfl : 0 ≤ flags ∧ flags ≤ 7
      · have hfa : (bits .and .i64 flags 1 == 0) = decide (flags % 2 = 0) := by
          obtain ⟨n, rfl⟩ := Int.eq_ofNat_of_zero_le hfl.1
          have hn : n < 8 := by omega
          match n, hn with
          | 0, _ => decide
          | 1, _ => decide
          | 2, _ => decide
          | 3, _ => decide
          | 4, _ => decide
          | 5, _ => decide
          | 6, _ => decide
          | 7, _ => decide
        by_cases hodd : flags % 2 = 1
        · have hpg : 0 ≤ page ∧ page ≤ 255 := by
            unfold Mm.check at hc
            split at hc
            · split at hc
              · assumption
              · omega
            · omega
          obtain ⟨p, rfl⟩ := Int.eq_ofNat_of_zero_le hpg.1
          obtain ⟨fr, rfl⟩ := Int.eq_ofNat_of_zero_le hfr.1
          obtain ⟨fl, rfl⟩ := Int.eq_ofNat_of_zero_le hfl.1
          have hm : M.map root p fr fl = if M.get root (p / 16) = (0, 0) then match M.least with
              | none => (M, 11)
              | some k => ((M.alloc k).put root (p / 16) 1 k).mapLow k (p % 16) fl fr
            else M.mapLow (M.get root (p / 16)).2 (p % 16) fl fr := by
            simp only [Mm.map, hc, ne_eq, not_true_eq_false, if_false, Int.toNat_natCast]; rw [if_neg (by omega)]
          obtain ⟨R, hRe⟩ : ∃ R, R = M.map root p fr fl := ⟨_, rfl⟩
          rw [← hRe]
          have HRE := Lib.hid (hRe.trans hm)
          clear hRe
          have h16 : ((p : Int).tdiv 16) = ((p / 16 : Nat) : Int) := by rw [Int.tdiv_eq_ediv_of_nonneg (by omega)]; omega
          have hm16 : ((p : Int).tmod 16) = ((p % 16 : Nat) : Int) := by rw [Int.tmod_eq_emod_of_nonneg (by omega)]; omega
          have hl : p / 16 < 16 := by omega
          have hl2 : p % 16 < 16 := by omega
          have c16 : ((p / 16 : Nat) : Int) = (p : Int) / 16 := by omega
          have cm16 : ((p % 16 : Nat) : Int) = (p : Int) % 16 := by omega
          have hd1 : decide (0 ≤ (fr : Int) ∧ (fr : Int) ≤ 255) = true := decide_eq_true hfr
          have hd2 : decide (0 ≤ (fl : Int) ∧ (fl : Int) ≤ 7) = true := decide_eq_true hfl
          have hd3 : (bits .and .i64 fl 1 == 0) = false := by rw [hfa]; simp; omega
          have hfr2 : fr < 65536 := by omega
          have hfl2 : fl < 256 := by omega
          have hlow := fun w' (M' : Mm) (hM : MemAt w' f fb M') (t : Int) => get_any hM t (p % 16) hl2
          have htop := fun w' (hM : MemAt w' f fb M) => get_any hM root (p / 16) hl
          have hputlow := fun w' (M' : Mm) (hM : MemAt w' f fb M') (t : Int) => put_any hM t (p % 16) fl fr hl2 hfl2 hfr2
          have hputtop := fun w' (M' : Mm) (hM : MemAt w' f fb M') (k : Nat) (hk : k < 65536) => put_any hM root (p / 16) 1 k hl (by omega) hk
          rw [cm16] at hlow hputlow hm16
          rw [c16] at htop hputtop h16
          have HLOW := Lib.hid @hlow
          have HTOP := Lib.hid @htop
          have HPL := Lib.hid @hputlow
          have HPT := Lib.hid @hputtop
          have HC := Lib.hid hc
          have HPP := Lib.hid hpg
          clear hlow htop hputlow hputtop hc hpg hfr hfl hfa hodd c16 cm16 hm
          obtain ⟨⟨tf, tn⟩, hT⟩ : ∃ x, x = M.get root (p / 16) := ⟨_, rfl⟩
          have HT := Lib.hid hT
          clear hT
          go_enter Try.func24, Try.ntmps24
          go_wp2_with fail
          refine (check_any h root p).mono ?_
          rintro e w1 ⟨rfl, hs1⟩
          rw [HC.out]
          go_wp2_with fail
          refine (inside1 _ _ 255 fr (by simp)).mono ?_
          rintro e w2 ⟨rfl, hs2⟩
          rw [hd1]
          go_wp2_with fail
          refine (inside1 _ _ 7 fl (by simp)).mono ?_
          rintro e w3 ⟨rfl, hs3⟩
          rw [hd2]
          have hs4 := ((((hs1.alloc _).trans hs2).alloc _).trans hs3)
          clear hs1 hs2 hs3
          go_wp2_with fail
          refine (of_any _ p hp).mono ?_
          rintro e w5 ⟨rfl, hs5⟩
          rw [h16, hm16]
          have hz5 := (hs4.trans hs5).size
          have hs6 := (hs4.trans hs5).alloc (.cells #[.int .i64 ((p : Int) / 16), .int .i64 ((p : Int) % 16)] 114)
          clear hs4 hs5
          go_wp2_with fail
          refine (HTOP.out _ (h.same0 hs6)).mono ?_
          rintro e w7 ⟨rfl, hs7⟩
          rw [← HT.out]
          have g0 := hs7.cell (a := ⟨w5.heap.size, 0, none⟩) (v := .int .i64 ((p : Int) / 16)) (by simp) (by simp)
          have g1 := hs7.cell (a := ⟨w5.heap.size, 1, none⟩) (v := .int .i64 ((p : Int) % 16)) (by simp) (by simp)
          have hz7 := World.block_lt_of_cell? _ _ g0
          have hs8 := hs6.trans hs7
          clear hs6 hs7
          by_cases htz : tf = 0 ∧ tn = 0
          · obtain ⟨rfl, rfl⟩ := htz
            have hM8 := h.same0 (hs8.alloc (.cells #[.int .i64 0, .int .i64 0] 108) |>.alloc (.cells #[.int .i64 0, .int .i64 0] 108))
            have hs9 := (hs8.alloc (.cells #[.int .i64 0, .int .i64 0] 108)).alloc (.cells #[.int .i64 0, .int .i64 0] 108)
            have hltfb := h.lt.2
            have hn2 := h.n2
            have hszw := hs8.size
            go_wp2_with fail
            refine (alloc_any hM8).mono ?_
            rintro e w9 (⟨hall, rfl, hM9, hsA⟩ | ⟨k, hk, hzk, hbel, rfl, hM9, hsA⟩)
            · go_wp2
              go_ret
              have hr2 := HRE.out
              rw [← HT.out, if_pos rfl, Mm.least_none hall] at hr2
              rw [hr2]
              exact ⟨rfl, hM9, (hs9.trans hsA).mono (fun _ _ h => h.elim)⟩
            · have hleast := Mm.least_some hk hzk hbel
              have HLE := Lib.hid hleast
              clear hleast hbel hzk
              have hsA' : Same (· = fb) w7 w9 := (((same_alloc _).alloc _).mono (fun _ _ h => h.elim)).trans hsA
              have m0 := hsA'.cell g0 (by simp; omega)
              have m1 := hsA'.cell g1 (by simp; omega)
              obtain ⟨m2, m3, z2, z3, m4⟩ := new2 ((((same_alloc _).mono (fun _ _ h => h.elim)).trans hsA : Same (· = fb) (w7.alloc _) w9)) (by omega)
              have hsB := (hs9.mono (T := (· = fb)) (fun _ _ h => h.elim)).trans hsA
              clear hs8 hs9 hsA hsA' g0 g1 hM8
              have q1 : Same (fun b => b = w7.heap.size) w9 ((w9.setCell ⟨w7.heap.size, 0, none⟩ (.int .i64 1)).setCell ⟨w7.heap.size, 1, none⟩ (.int .i64 k)) := ((Same.refl (fun b => b = w7.heap.size) w9).setCell (a := ⟨w7.heap.size, 0, none⟩) _ (.inr rfl)).setCell (a := ⟨w7.heap.size, 1, none⟩) _ (.inr rfl)
              have hlf := h.lt.1
              have hMA := hM9.same q1 (by omega) (by omega)
              have n0 := q1.cell m0 (by simp; omega)
              have n1 := q1.cell m1 (by simp; omega)
              have n2 : ((w9.setCell ⟨w7.heap.size, 0, none⟩ (.int .i64 1)).setCell ⟨w7.heap.size, 1, none⟩ (.int .i64 k)).cell? ⟨w7.heap.size, 0, none⟩ = some (.int .i64 1) := cell_ne (World.cell?_setCell_same _ _ _ m2) (by simp)
              have n3 : ((w9.setCell ⟨w7.heap.size, 0, none⟩ (.int .i64 1)).setCell ⟨w7.heap.size, 1, none⟩ (.int .i64 k)).cell? ⟨w7.heap.size, 1, none⟩ = some (.int .i64 k) := World.cell?_setCell_same _ _ _ (cell_ne m3 (by simp))
              have hsC := hsB.trans' q1 (S := (· = fb)) (fun b hb hbw => by omega)
              go_wp2_with fail
              refine (HPT.out _ _ hMA k (by have : (M.alloc k).n = M.n := rfl; omega)).mono ?_
              rintro e wB ⟨rfl, hMB, hsD⟩
              have o0 := hsD.cell n0 (by simp; omega)
              have o1 := hsD.cell n1 (by simp; omega)
              have o2 := hsD.cell n2 (by simp; omega)
              have o3 := hsD.cell n3 (by simp; omega)
              have hsE := hsC.trans hsD
              clear m0 m1 m2 m3 z2 z3 n0 n1 n2 n3 hsC hsD hsB q1 hM9 hMA
              obtain ⟨M2, hM2⟩ : ∃ M2, M2 = (M.alloc k).put root (p / 16) 1 k := ⟨_, rfl⟩
              rw [← hM2] at hMB
              obtain ⟨⟨lf, ln⟩, hL⟩ : ∃ x, x = M2.get k (p % 16) := ⟨_, rfl⟩
              have hr2 := HRE.out
              rw [← HT.out, if_pos rfl, HLE.out] at hr2
              simp only at hr2
              rw [← hM2] at hr2
              have HR2 := Lib.hid hr2
              have HL := Lib.hid hL
              clear hr2 hL hM2
              go_wp2_with fail
              refine (HLOW.out _ M2 hMB k).mono ?_
              rintro e wC ⟨rfl, hsF⟩
              rw [← HL.out]
              have s0 := hsF.cell o0 (by simp)
              have s1 := hsF.cell o1 (by simp)
              have s2 := hsF.cell o2 (by simp)
              have s3 := hsF.cell o3 (by simp)
              have hMC := hMB.same0 hsF
              have hsG := hsE.trans (hsF.mono (fun _ _ h => h.elim))
              clear o0 o1 o2 o3 hsE hsF hMB
              by_cases hlz : lf = 0 ∧ ln = 0
              · obtain ⟨rfl, rfl⟩ := hlz
                go_wp2_with fail
                refine (HPL.out _ M2 hMC k).mono ?_
                rintro e wD ⟨rfl, hMD, hsH⟩
                go_wp2
                go_ret
                have hr : M2.mapLow k (p % 16) fl fr = (M2.put k (p % 16) fl fr, 0) := by unfold Mm.mapLow; rw [← HL.out, if_pos rfl]
                rw [HR2.out, hr]
                exact ⟨rfl, hMD, hsG.trans hsH⟩
              · have hor : (lf == 0) = false ∨ (lf = 0 ∧ (ln == 0) = false) := by
                  by_cases h0 : lf = 0
                  · exact .inr ⟨h0, by rw [beq_eq_false_iff_ne]; omega⟩
                  · exact .inl (by rw [beq_eq_false_iff_ne]; exact h0)
                have hln0 : ¬ ((lf, ln) = ((0, 0) : Int × Int)) := by simp; omega
                have HLN := Lib.hid hln0
                clear hlz hln0
                rcases hor with hlb | ⟨rfl, hlb⟩
                all_goals
                  go_wp2
                  go_ret
                  have hr : M2.mapLow k (p % 16) fl fr = (M2, 20) := by unfold Mm.mapLow; rw [← HL.out, if_neg HLN.out]
                  rw [HR2.out, hr]
                  exact ⟨rfl, hMC, hsG⟩
          · have hM8 := h.same0 (hs8.alloc (.cells #[.int .i64 tf, .int .i64 tn] 108) |>.alloc (.cells #[.int .i64 0, .int .i64 0] 108))
            have hs9 := (hs8.alloc (.cells #[.int .i64 tf, .int .i64 tn] 108)).alloc (.cells #[.int .i64 0, .int .i64 0] 108)
            have hne0 : ¬ ((tf, tn) = ((0, 0) : Int × Int)) := by simp; omega
            have HNE := Lib.hid hne0
            have hor : (tf == 0) = false ∨ (tf = 0 ∧ (tn == 0) = false) := by
              by_cases h0 : tf = 0
              · exact .inr ⟨h0, by rw [beq_eq_false_iff_ne]; omega⟩
              · exact .inl (by rw [beq_eq_false_iff_ne]; exact h0)
            clear htz hne0
            rcases hor with htb | ⟨rfl, htb⟩
            all_goals
              go_wp2_with fail
              refine (HLOW.out _ M hM8 tn).mono ?_
              rintro e w9 ⟨rfl, hsA⟩
              obtain ⟨⟨lf, ln⟩, hL⟩ : ∃ x, x = M.get tn (p % 16) := ⟨_, rfl⟩
              have HL := Lib.hid hL
              rw [← hL]
              clear hL
              by_cases hlz : lf = 0 ∧ ln = 0
              · obtain ⟨rfl, rfl⟩ := hlz
                have hMA := hM8.same0 hsA
                have m0 := (((same_alloc _).alloc _).trans hsA).cell g0 (by simp)
                have m1 := (((same_alloc _).alloc _).trans hsA).cell g1 (by simp)
                obtain ⟨m2, m3, -, -, m4⟩ := new2 ((same_alloc _).trans hsA) (by simp)
                have hsB := hs9.trans hsA
                clear hs8 hs9 hsA g0 g1 hM8
                go_wp2_with fail
                refine (HPL.out _ M hMA tn).mono ?_
                rintro e wB ⟨rfl, hMB, hsC⟩
                go_wp2
                go_ret
                have hr : M.mapLow tn (p % 16) fl fr = (M.put tn (p % 16) fl fr, 0) := by unfold Mm.mapLow; rw [← HL.out, if_pos rfl]
                have hr2 := HRE.out
                rw [← HT.out, if_neg HNE.out] at hr2
                rw [hr2, hr]
                exact ⟨rfl, hMB, (hsB.mono (fun _ _ h => h.elim)).trans hsC⟩
              · have hor : (lf == 0) = false ∨ (lf = 0 ∧ (ln == 0) = false) := by
                  by_cases h0 : lf = 0
                  · exact .inr ⟨h0, by rw [beq_eq_false_iff_ne]; omega⟩
                  · exact .inl (by rw [beq_eq_false_iff_ne]; exact h0)
                have hln0 : ¬ ((lf, ln) = ((0, 0) : Int × Int)) := by simp; omega
                have HLN := Lib.hid hln0
                clear hlz hln0
                have hMA := hM8.same0 hsA
                have hsB := hs9.trans hsA
                rcases hor with hlb | ⟨rfl, hlb⟩
                all_goals
                  go_wp2
                  go_ret
                  have hr : M.mapLow tn (p % 16) fl fr = (M, 20) := by unfold Mm.mapLow; rw [← HL.out, if_neg HLN.out]
                  have hr2 := HRE.out
                  rw [← HT.out, if_neg HNE.out] at hr2
                  rw [hr2, hr]
                  exact ⟨rfl, hMA, hsB.mono (fun _ _ h => h.elim)⟩
        · have hm : M.map root page frame flags = (M, 2) := by simp only [Mm.map, hc, ne_eq, not_true_eq_false, if_false]; rw [if_pos (by omega)]
          rw [hm]
          have hd1 : decide (0 ≤ frame ∧ frame ≤ 255) = true := decide_eq_true hfr
          have hd2 : decide (0 ≤ flags ∧ flags ≤ 7) = true := decide_eq_true hfl
          have hd3 : (bits .and .i64 flags 1 == 0) = true := by rw [hfa]; simp; omega
          clear hfa
          go_enter Try.func24, Try.ntmps24
          go_wp2_with fail
          refine (check_any h root page).mono ?_
          rintro e w1 ⟨rfl, hs1⟩
          rw [hc]
          go_wp2_with fail
          refine (inside1 _ _ 255 frame (by simp)).mono ?_
          rintro e w2 ⟨rfl, hs2⟩
          rw [hd1]
          go_wp2_with fail
          refine (inside1 _ _ 7 flags (by simp)).mono ?_
          rintro e w3 ⟨rfl, hs3⟩
          rw [hd2]
          go_wp2
          go_ret
          have hs := ((((hs1.alloc _).trans hs2).alloc _).trans hs3)
          exact ⟨rfl, h.same0 hs, hs.mono (fun _ _ h => h.elim)⟩
      · have hm : M.map root page frame flags = (M, 2) := by simp only [Mm.map, hc, ne_eq, not_true_eq_false, if_false]; rw [if_pos (by omega)]
        rw [hm]
        have hd1 : decide (0 ≤ frame ∧ frame ≤ 255) = true := decide_eq_true hfr
        have hd2 : decide (0 ≤ flags ∧ flags ≤ 7) = false := decide_eq_false hfl
        clear hfl
        go_enter Try.func24, Try.ntmps24
        go_wp2_with fail
        refine (check_any h root page).mono ?_
        rintro e w1 ⟨rfl, hs1⟩
        rw [hc]
        go_wp2_with fail
        refine (inside1 _ _ 255 frame (by simp)).mono ?_
        rintro e w2 ⟨rfl, hs2⟩
        rw [hd1]
        go_wp2_with fail
        refine (inside1 _ _ 7 flags (by simp)).mono ?_
        rintro e w3 ⟨rfl, hs3⟩
        rw [hd2]
        go_wp2
        go_ret
        have hs := ((((hs1.alloc _).trans hs2).alloc _).trans hs3)
        exact ⟨rfl, h.same0 hs, hs.mono (fun _ _ h => h.elim)⟩
    · have hm : M.map root page frame flags = (M, 2) := by simp only [Mm.map, hc, ne_eq, not_true_eq_false, if_false]; rw [if_pos (by omega)]
      rw [hm]
      have hd1 : decide (0 ≤ frame ∧ frame ≤ 255) = false := decide_eq_false hfr
      clear hfr
      go_enter Try.func24, Try.ntmps24
      go_wp2_with fail
      refine (check_any h root page).mono ?_
      rintro e w1 ⟨rfl, hs1⟩
      rw [hc]
      go_wp2_with fail
      refine (inside1 _ _ 255 frame (by simp)).mono ?_
      rintro e w2 ⟨rfl, hs2⟩
      rw [hd1]
      go_wp2
      go_ret
      have hs := ((hs1.alloc _).trans hs2)
      exact ⟨rfl, h.same0 hs, hs.mono (fun _ _ h => h.elim)⟩
  · have hm : M.map root page frame flags = (M, M.check root page) := by simp only [Mm.map, ne_eq, hc, not_false_eq_true, if_true]
    have hb : (M.check root page == 0) = false := by simpa using hc
    rw [hm]
    clear hm hc
    go_enter Try.func24, Try.ntmps24
    go_wp2_with fail
    refine (check_any h root page).mono ?_
    rintro e w1 ⟨rfl, hs1⟩
    go_wp2
    go_ret
    exact ⟨rfl, h.same0 hs1, hs1.mono (fun _ _ h => h.elim)⟩
end Go.Proofs.Ytlbgnmcjdmdjpaa
namespace Go.Proofs.Ytlbgnmcjdmdjpaa
open Go.RowKit Go.Shelf
attribute [local go_sem] Oper.semAt_some

theorem entries_any (w : World) (p : Option Addr) (t : Int) :
    Calls Try.prog 59 #[.pointer p, .int .i64 t] w fun e w' => e = .returned (.func (.func 101) #[] #[.pointer (some ⟨w.heap.size, 0, none⟩), .pointer (some ⟨w.heap.size + 1, 0, none⟩)]) ∧ w' = (w.alloc (.cells #[.pointer p] 24)).alloc (.cells #[.int .i64 t] 3) := by
  go_enter Try.func59, Try.ntmps59
  go_wp2
  go_ret
  exact ⟨rfl, rfl⟩

set_option maxHeartbeats 1600000 in
/-- The iterator over a table's entries: J holds between rounds. -/
theorem entries1 (l bm bt f fb : Nat) (t : Int) (J : Nat → Mm → World → Prop) (Jx : World → Prop)
    (hsm : ∀ i M W W', J i M W → Same (fun _ => False) W W' → J i M W')
    (hc : ∀ i M W, J i M W → MemAt W f fb M ∧ W.cell? ⟨bm, 0, none⟩ = some (.pointer (some ⟨f, 0, none⟩)) ∧ W.cell? ⟨bt, 0, none⟩ = some (.int .i64 t))
    (hno : ∀ i M W, i < 16 → J i M W → (M.get t i).1 = 0 → J (i + 1) M W)
    (hy : ∀ i M W, i < 16 → J i M W → (M.get t i).1 ≠ 0 → YieldAt Fence.wide 0 Try.prog l #[.int .i64 i, .agg #[.int .i64 (M.get t i).1, .int .i64 (M.get t i).2]] W fun e W' =>
      (e = .returned (.bool true) ∧ ∃ M', J (i + 1) M' W') ∨ (e = .returned (.bool false) ∧ Jx W'))
    (w : World) (M0 : Mm) (h0 : J 0 M0 w) :
    Calls Try.prog 101 #[.func (.yield l) #[] #[], .pointer (some ⟨bm, 0, none⟩), .pointer (some ⟨bt, 0, none⟩)] w fun e W => (∃ v, e = .returned v) ∧ ((∃ M, J 16 M W) ∨ Jx W) := by
  refine (callsIn_wide (n := 0)).1 ?_
  refine callsIn_of_wp Try.func101 rfl trivial ?_ rfl
  simp only [Try.ntmps101, List.size_toArray, List.length_cons, List.length_nil, Nat.reduceAdd, Nat.reduceSub, Array.replicate_succ, Array.replicate_zero, List.push_toArray, List.append_toArray, List.nil_append, List.cons_append]
  gi_wp2
  refine wpIn_scope_straight ?_
  gi_wp2
  refine wpIn_label ?_
  gi_wp2
  gi_loopw [6] (fun p wr => ∃ k : Nat, k ≤ 16 ∧ p = .int .i64 k ∧ ∃ M, J k M wr) (fun p _ => 16 - (intOf p).toNat)
  case atStart => exact ⟨0, by omega, rfl, M0, h0⟩
  case round =>
    obtain ⟨k, hk, rfl, M, hJ⟩ := hrel
    by_cases hlt : k < 16
    · obtain ⟨hM, c1, c2⟩ := hc k M wr hJ
      have hgt := get_any hM t k hlt
      obtain ⟨⟨xf, xn⟩, hX⟩ : ∃ x, x = M.get t k := ⟨_, rfl⟩
      rw [← hX] at hgt
      simp only at hgt
      have HGT := Lib.hid hgt
      have HX := Lib.hid hX
      clear hgt hX
      by_cases hz : xf = 0
      · subst hz
        have hJ' := hno k M wr hlt hJ (by rw [← HX.out])
        have HJ := Lib.hid hJ'
        clear hJ'
        gi_wp2_with (gi_at_call 63; refine CallsIn.mono (callsIn_wide.2 HGT.out) ?_; rintro e w' ⟨rfl, hs⟩)
        go_roundw
        case rel => exact ⟨k + 1, by omega, by go_num, M, hsm _ _ _ _ HJ.out (hs.alloc _)⟩
        case measure => simp [intOf]; omega
      · have hzb : (xf == 0) = false := by simpa using hz
        have HZ := Lib.hid hz
        clear hz
        gi_wp2_with fail
        refine CallsIn.mono (callsIn_wide.2 HGT.out) ?_
        rintro e w' ⟨rfl, hs⟩
        have hJ2 := hsm _ _ _ _ hJ (hs.alloc (.cells #[.int .i64 xf, .int .i64 xn] 108))
        have hyk := hy k M _ hlt hJ2 (by rw [← HX.out]; exact HZ.out)
        rw [← HX.out] at hyk
        obtain ⟨fn, tmps, assign, body, hye, hR⟩ := hyk
        gi_wp2
        refine hR.mono ?_
        rintro e W3 (⟨rfl, M', hJ3⟩ | ⟨rfl, hJx3⟩)
        · gi_wp2
          go_roundw
          case rel => exact ⟨k + 1, by omega, by go_num, M', hJ3⟩
          case measure => simp [intOf]; omega
        · gi_wp2
          simp only [Exit.noGoto]
          exact bodyPost_ret (results_none rfl _ _ _) rfl ⟨⟨_, rfl⟩, .inr hJx3⟩
    · obtain rfl : k = 16 := by omega
      gi_wp2
      simp only [Exit.noGoto]
      exact bodyPost_end (results_none rfl _ _ _) rfl ⟨⟨_, rfl⟩, .inl ⟨M, hJ⟩⟩
end Go.Proofs.Ytlbgnmcjdmdjpaa
namespace Go.Proofs.Ytlbgnmcjdmdjpaa
open Go.RowKit Go.Shelf
attribute [local go_sem] Oper.semAt_some

def Mm.empty (M : Mm) (t : Int) : Bool := (List.range 16).all fun i => decide ((M.get t i).1 = 0)
theorem loadVar4 (w : World) (a : Addr) (v : Value) (h : w.cell? a = some v) : (loadVar 4 a).run Try.prog w = .ok v w := by simp [go_sem, h]

set_option maxHeartbeats 1600000 in
theorem isEmpty_any {w : World} {f fb : Nat} {M : Mm} (h : MemAt w f fb M) (t : Int) :
    Calls Try.prog 65 #[.pointer (some ⟨f, 0, none⟩), .int .i64 t] w fun e w' => e = .returned (.bool (M.empty t)) ∧ Same (fun _ => False) w w' := by
  have hlt := h.lt
  have H := Lib.hid h
  clear h
  refine (callsIn_wide (n := 0)).1 ?_
  refine callsIn_of_wp_marks Try.func65 rfl trivial ?_ rfl
  simp only [Try.ntmps65, List.size_toArray, List.length_cons, List.length_nil, Nat.reduceAdd, Nat.reduceSub, Array.replicate_succ, Array.replicate_zero, List.push_toArray, List.append_toArray, List.nil_append, List.cons_append]
  gi_wp2_with (gi_at_call 59; refine CallsIn.mono (callsIn_wide.2 (entries_any _ _ _)) ?_; rintro e w' ⟨rfl, rfl⟩)
  refine range_wide (gf := 101) (lb := #[.pointer (some ⟨w.heap.size + 1, 0, none⟩), .pointer (some ⟨w.heap.size + 1 + 1, 0, none⟩)]) rfl (enters_of Try.func101 (by kernel_rfl) rfl) ?_
  intro rec D L W1 hD hL hrule hs1 hl1 hd1 _
  simp only [World.size_alloc, World.size_setCell] at hD
  have hc0 : W1.cell? ⟨w.heap.size, 0, none⟩ = some (.bool false) := hs1.cell (by simp [go_sem]) (by simp)
  have hb0 : W1.cell? ⟨w.heap.size + 1, 0, none⟩ = some (.pointer (some ⟨f, 0, none⟩)) := hs1.cell (by simp [go_sem]) (by simp)
  have hb1 : W1.cell? ⟨w.heap.size + 1 + 1, 0, none⟩ = some (.int .i64 t) := hs1.cell (by simp [go_sem]) (by simp)
  have hf0 : W1.frozen? ⟨w.heap.size, 0, none⟩ = false := (hs1.frozen (by simp <;> omega) (by simp)).trans (by simp [go_sem])
  have hs2 : Same (fun k => w.heap.size ≤ k) w W1 := ((((Same.refl _ w).alloc _).alloc _).alloc _).trans (hs1.mono (by simp))
  refine Calls.mono (entries1 L (w.heap.size + 1) (w.heap.size + 1 + 1) f fb t (fun i M' W => M' = M ∧ (∀ j, j < i → (M.get t j).1 = 0) ∧ W.cell? ⟨w.heap.size, 0, none⟩ = some (.bool false) ∧ W.frozen? ⟨w.heap.size, 0, none⟩ = false ∧
      W.cell? ⟨w.heap.size + 1, 0, none⟩ = some (.pointer (some ⟨f, 0, none⟩)) ∧ W.cell? ⟨w.heap.size + 1 + 1, 0, none⟩ = some (.int .i64 t) ∧ Same (fun k => w.heap.size ≤ k) w W ∧ W.heap[L]? = some (rec .ready none) ∧ W.heap[D]? = some (.deferred (some [])))
    (fun W => M.empty t = false ∧ W.cell? ⟨w.heap.size, 0, none⟩ = some (.bool false) ∧ Same (fun k => w.heap.size ≤ k) w W ∧ W.heap[L]? = some (rec .done (some .ret)) ∧ W.heap[D]? = some (.deferred (some [])))
    ?_ ?_ ?_ ?_ W1 M ⟨rfl, by omega, hc0, hf0, hb0, hb1, hs2, hl1, hd1⟩) ?_
  · rintro i M' W W' ⟨rfl, h1, h2, h3, h4, h5, h6, h7, h8⟩ hs
    exact ⟨rfl, h1, hs.cell h2 (by simp), hs.unfrozen h2 h3 (by simp), hs.cell h4 (by simp), hs.cell h5 (by simp), h6.trans (hs.mono (fun _ _ h => h.elim)), hs.block h7 (by simp), hs.block h8 (by simp)⟩
  · rintro i M' W ⟨rfl, h1, h2, h3, h4, h5, h6, h7, h8⟩
    exact ⟨H.out.same h6 (by omega) (by omega), h4, h5⟩
  · rintro i M' W hi ⟨rfl, h1, h2, h3, h4, h5, h6, h7, h8⟩ hz
    exact ⟨rfl, fun j hj => by
      by_cases e : j = i
      · rw [e]; exact hz
      · exact h1 j (by omega), h2, h3, h4, h5, h6, h7, h8⟩
  · rintro i M' W hi ⟨rfl, h1, h2, h3, h4, h5, h6, h7, h8⟩ hz
    have hem : M'.empty t = false := by
      unfold Mm.empty
      rw [List.all_eq_false]
      exact ⟨i, List.mem_range.2 hi, by simpa using hz⟩
    have HEM := Lib.hid hem
    clear hz hem
    refine hrule W _ _ h7 rfl ?_
    gi_wp2
    intro W2 hs2 hz2 hl2
    have hc2 := hs2.cell h2 (by simp; omega)
    have hf2 := hs2.unfrozen h2 h3 (by simp; omega)
    have hd2 := hs2.block h8 (by omega)
    have hs3 := h6.trans (hs2.mono (fun k _ e => by omega))
    gi_wp2
    have hs5 : Same (fun k => w.heap.size ≤ k) W2 (W2.setCell ⟨w.heap.size, 0, none⟩ (.bool false)) := (Same.refl _ _).setCell _ (.inr (Nat.le_refl _))
    have hs6 : Same (· = w.heap.size) W2 (W2.setCell ⟨w.heap.size, 0, none⟩ (.bool false)) := (Same.refl _ _).setCell _ (.inr rfl)
    refine ⟨hs6.block hl2 (by omega), fun W3 hs4 _ hl4 => .inr ⟨rfl, HEM.out, ?_, (hs3.trans hs5).trans (hs4.mono (fun k _ e => by omega)), hl4, hs4.block (hs6.block hd2 (by omega)) (by omega)⟩⟩
    exact hs4.cell (World.cell?_setCell_same _ _ _ hc2) (by simp; omega)
  · rintro e W ⟨⟨v, rfl⟩, ⟨M', rfl, h1, h2, h3, h4, h5, h6, h7, h8⟩ | ⟨hem, h2, h6, h7, h8⟩⟩
    · have hem : M'.empty t = true := by
        unfold Mm.empty
        rw [List.all_eq_true]
        intro i hi
        simpa using h1 i (List.mem_range.1 hi)
      refine ⟨⟨_, rfl⟩, .inl ⟨h7, fun W2 hs2 _ => ?_⟩⟩
      have hc2 := hs2.cell h2 (by simp; omega)
      have hf2 := hs2.unfrozen h2 h3 (by simp; omega)
      have hd2 := hs2.block h8 (by omega)
      have hs3 := h6.trans (hs2.mono (fun k _ e => by omega))
      have HEM := Lib.hid hem
      clear hem
      gi_wp2
      have hs6 : Same (· = w.heap.size) W2 (W2.setCell ⟨w.heap.size, 0, none⟩ (.bool true)) := (Same.refl _ _).setCell _ (.inr rfl)
      refine leaves_mark (hs6.block hd2 (by omega)) fun W3 hs4 _ => ⟨results_cell1 rfl (by rfl) (loadVar4 _ _ _ (hs4.cell (World.cell?_setCell_same _ _ _ hc2) (by simp; omega))), by rw [HEM.out], ?_⟩
      exact ((hs3.trans (hs6.mono (fun k _ h => by omega))).trans (hs4.mono (fun k _ e => by omega))).mono (fun k h h' => by omega)
    · refine ⟨⟨_, rfl⟩, .inr ⟨_, h7, fun W2 hs2 _ => ?_⟩⟩
      have hc2 := hs2.cell h2 (by simp; omega)
      have hd2 := hs2.block h8 (by omega)
      have hs3 := h6.trans (hs2.mono (fun k _ e => by omega))
      have HEM := Lib.hid hem
      clear hem
      gi_wp2
      refine leaves_mark hd2 fun W3 hs4 _ => ⟨results_cell1 rfl (by rfl) (loadVar4 _ _ _ (hs4.cell hc2 (by simp; omega))), by rw [HEM.out], ?_⟩
      exact (hs3.trans (hs4.mono (fun k _ e => by omega))).mono (fun k h h' => by omega)
end Go.Proofs.Ytlbgnmcjdmdjpaa
namespace Go.Proofs.Ytlbgnmcjdmdjpaa
open Go.RowKit Go.Shelf
attribute [local go_sem] Oper.semAt_some

/-- What Unmap leaves. -/
def Mm.cut (M : Mm) (root t : Int) (i j : Nat) : Mm := if (M.put t j 0 0).empty t then ((M.put t j 0 0).free t).put root i 0 0 else M.put t j 0 0
def Mm.unmap (M : Mm) (root page : Int) : Mm × Int × Int :=
  if (M.walk root page).2.2 ≠ 0 then (M, 0, (M.walk root page).2.2)
  else (M.cut root (M.get root (page.toNat / 16)).2 (page.toNat / 16) (page.toNat % 16), (M.walk root page).1, 0)
theorem Mm.check_range {M : Mm} {root page : Int} (hc : M.check root page = 0) : 0 ≤ page ∧ page ≤ 255 := by
  unfold Mm.check at hc
  split at hc
  · split at hc
    · assumption
    · omega
  · omega
theorem Mm.walk_range {M : Mm} {root page : Int} (h : (M.walk root page).2.2 = 0) : 0 ≤ page ∧ page ≤ 255 := by
  by_cases hc : M.check root page = 0
  · exact Mm.check_range hc
  · simp only [Mm.walk, ne_eq, hc, not_false_eq_true, if_true] at h
theorem unmap_nil (w : World) (root page : Int) (hp : In64 page) : Calls Try.prog 27 #[.pointer none, .int .i64 root, .int .i64 page] w fun e w' => e = .returned (.tuple #[.int .i64 0, .int .i64 1]) ∧ Same (fun _ => False) w w' := by
  go_enter Try.func27, Try.ntmps27
  go_wp2_with fail
  refine (walk_nil _ root page hp).mono ?_
  rintro e w' ⟨rfl, hs⟩
  go_wp2
  go_ret2
  exact ⟨rfl, hs⟩

theorem field108 (w : World) (x y : Int) : (Instr.field 108 (.agg #[.int .i64 x, .int .i64 y]) 1).run Try.prog w = .ok (.int .i64 y) w := by
  have hu : Try.prog.underlying 108 = some (.struct (Try.prog.fieldsOf 108)) := by kernel_rfl
  simp [Instr.field, go_sem, run_underlying hu, part, isAgg, asAgg, Sem.run_bind, Result.andThen]
set_option maxHeartbeats 3200000 in
set_option maxRecDepth 8192 in
theorem unmap_any {w : World} {f fb : Nat} {M : Mm} (h : MemAt w f fb M) (root page : Int) (hp : In64 page) :
    Calls Try.prog 27 #[.pointer (some ⟨f, 0, none⟩), .int .i64 root, .int .i64 page] w fun e w' => e = .returned (.tuple #[.int .i64 (M.unmap root page).2.1, .int .i64 (M.unmap root page).2.2]) ∧ MemAt w' f fb (M.unmap root page).1 ∧ Same (· = fb) w w' := by
  obtain ⟨R, hR⟩ : ∃ R, R = M.unmap root page := ⟨_, rfl⟩
  rw [← hR]
  have hwk := walk_any h root page hp
  obtain ⟨⟨wf, wg, we⟩, hW⟩ : ∃ x, x = M.walk root page := ⟨_, rfl⟩
  rw [← hW] at hwk
  simp only at hwk
  by_cases hz : we = 0
  · subst hz
    have hpg := Mm.walk_range (M := M) (root := root) (page := page) (by rw [← hW])
    obtain ⟨p, rfl⟩ := Int.eq_ofNat_of_zero_le hpg.1
    have hm : R = (M.cut root (M.get root (p / 16)).2 (p / 16) (p % 16), wf, 0) := by
      rw [hR]; unfold Mm.unmap; rw [← hW]; simp
    have h16 : ((p : Int).tdiv 16) = ((p / 16 : Nat) : Int) := by rw [Int.tdiv_eq_ediv_of_nonneg (by omega)]; omega
    have hm16 : ((p : Int).tmod 16) = ((p % 16 : Nat) : Int) := by rw [Int.tmod_eq_emod_of_nonneg (by omega)]; omega
    have hl : p / 16 < 16 := by omega
    have hl2 : p % 16 < 16 := by omega
    have c16 : ((p / 16 : Nat) : Int) = (p : Int) / 16 := by omega
    have cm16 : ((p % 16 : Nat) : Int) = (p : Int) % 16 := by omega
    have htop := fun w' (hM : MemAt w' f fb M) => get_any hM root (p / 16) hl
    have hpl := fun w' (M' : Mm) (hM : MemAt w' f fb M') (t : Int) => put_any hM t (p % 16) 0 0 hl2 (by omega) (by omega)
    have hpt := fun w' (M' : Mm) (hM : MemAt w' f fb M') => put_any hM root (p / 16) 0 0 hl (by omega) (by omega)
    rw [c16] at htop hpt h16
    rw [cm16] at hpl hm16
    obtain ⟨⟨tf, tn⟩, hT⟩ : ∃ x, x = M.get root (p / 16) := ⟨_, rfl⟩
    rw [← hT] at htop hm
    simp only at htop hm
    have HTOP := Lib.hid @htop
    have HPL := Lib.hid @hpl
    have HPT := Lib.hid @hpt
    have HM := Lib.hid hm
    have HWK := Lib.hid hwk
    have hlt := h.lt
    clear htop hpl hpt hm hwk hT hW hR c16 cm16 hpg
    go_enter Try.func27, Try.ntmps27
    go_wp2_with fail
    refine HWK.out.mono ?_
    rintro e w1 ⟨rfl, hs1⟩
    go_wp2_with fail
    refine (of_any _ p hp).mono ?_
    rintro e w2 ⟨rfl, hs2⟩
    rw [h16, hm16]
    have hz2 := (hs1.trans hs2).size
    have hs3 := (hs1.trans hs2).alloc (.cells #[.int .i64 ((p : Int) / 16), .int .i64 ((p : Int) % 16)] 114)
    go_wp2_with fail
    refine (HTOP.out _ (h.same0 hs3)).mono ?_
    rintro e w3 ⟨rfl, hs4⟩
    obtain ⟨g0, g1, -, -, g4⟩ := new2 hs4 (by simp)
    have hs5 := hs3.trans hs4
    have hfd := field108 w3 tf tn
    clear hs1 hs2 hs3 hs4
    go_wp2_with fail
    refine (HPL.out _ M (h.same0 hs5) tn).mono ?_
    rintro e w4 ⟨rfl, hM4, hs6⟩
    have k0 := hs6.cell g0 (by simp; omega)
    have k1 := hs6.cell g1 (by simp; omega)
    have hs7 := (hs5.mono (T := (· = fb)) (fun _ _ h => h.elim)).trans hs6
    clear hs5 hs6 g0 g1
    obtain ⟨M1, hM1⟩ : ∃ M1, M1 = M.put tn (p % 16) 0 0 := ⟨_, rfl⟩
    rw [← hM1] at hM4
    have hme := HM.out
    unfold Mm.cut at hme
    rw [← hM1] at hme
    clear hM1
    go_wp2_with fail
    refine (isEmpty_any hM4 tn).mono ?_
    rintro e w5 ⟨rfl, hs8⟩
    have m0 := hs8.cell k0 (by simp)
    have m1 := hs8.cell k1 (by simp)
    have hM5 := hM4.same0 hs8
    have hs9 := hs7.trans (hs8.mono (fun _ _ h => h.elim))
    clear hs7 hs8 k0 k1 hM4
    cases hem : M1.empty tn with
    | false =>
      rw [hem] at hme
      have HME := Lib.hid hme
      clear hme hem
      go_wp2
      go_ret2
      have := HME.out
      simp only [Bool.false_eq_true, if_false] at this
      rw [this]
      exact ⟨rfl, hM5, hs9⟩
    | true =>
      rw [hem] at hme
      have HME := Lib.hid hme
      clear hme hem
      go_wp2_with fail
      refine (free_any hM5 tn).mono ?_
      rintro e w6 ⟨rfl, hM6, hsA⟩
      generalize (if M1.isUsed tn = true then (0 : Int) else 10) = fe
      have n0 := hsA.cell m0 (by simp; omega)
      have n1 := hsA.cell m1 (by simp; omega)
      clear m0 m1
      go_wp2_with fail
      refine (HPT.out _ _ hM6).mono ?_
      rintro e w7 ⟨rfl, hM7, hsB⟩
      go_wp2
      go_ret2
      have := HME.out
      simp only [if_true] at this
      rw [this]
      exact ⟨rfl, hM7, (hs9.trans hsA).trans hsB⟩
  · have hm : R = (M, 0, we) := by rw [hR]; unfold Mm.unmap; rw [← hW]; simp [hz]
    have hb : (we == 0) = false := by simpa using hz
    rw [hm]
    clear hm hz hR hW
    go_enter Try.func27, Try.ntmps27
    go_wp2_with fail
    refine hwk.mono ?_
    rintro e w1 ⟨rfl, hs1⟩
    go_wp2
    go_ret2
    exact ⟨rfl, h.same0 hs1, hs1.mono (fun _ _ h => h.elim)⟩
end Go.Proofs.Ytlbgnmcjdmdjpaa
namespace Go.Proofs.Ytlbgnmcjdmdjpaa
open Go.RowKit Go.Shelf
attribute [local go_sem] Oper.semAt_some

/-- Drop's loop: the tables of the entries below i are freed. -/
def Mm.dropSt (M : Mm) (root : Int) : Nat → Mm
  | 0 => M
  | i + 1 => if ((M.dropSt root i).get root i).1 = 0 then M.dropSt root i else (M.dropSt root i).free ((M.dropSt root i).get root i).2
def Mm.drop (M : Mm) (root : Int) : Mm × Int :=
  if M.check root 0 ≠ 0 then (M, M.check root 0) else ((M.dropSt root 16).free root, if (M.dropSt root 16).isUsed root then 0 else 10)

theorem drop_nil (w : World) (root : Int) : Calls Try.prog 37 #[.pointer none, .int .i64 root] w fun e w' => e = .returned (.int .i64 1) ∧ Same (fun _ => False) w w' := by
  refine (callsIn_wide (n := 0)).1 ?_
  refine callsIn_of_wp_marks Try.func37 rfl trivial ?_ rfl
  simp only [Try.ntmps37, List.size_toArray, List.length_cons, List.length_nil, Nat.reduceAdd, Nat.reduceSub, Array.replicate_succ, Array.replicate_zero, List.push_toArray, List.append_toArray, List.nil_append, List.cons_append]
  gi_wp2_with (gi_at_call 58; refine CallsIn.mono (callsIn_wide.2 (check_nil _ _ _)) ?_; rintro e w' ⟨rfl, rfl⟩)
  refine leaves_nil (results_tmp rfl _ _ _) ⟨rfl, same_alloc _⟩

set_option maxHeartbeats 1600000 in
theorem drop_any {w : World} {f fb : Nat} {M : Mm} (h : MemAt w f fb M) (root : Int) :
    Calls Try.prog 37 #[.pointer (some ⟨f, 0, none⟩), .int .i64 root] w fun e w' => e = .returned (.int .i64 (M.drop root).2) ∧ MemAt w' f fb (M.drop root).1 ∧ Same (· = fb) w w' := by
  have hlt := h.lt
  obtain ⟨R, hR⟩ : ∃ R, R = M.drop root := ⟨_, rfl⟩
  rw [← hR]
  by_cases hc : M.check root 0 = 0
  · have hm : R = ((M.dropSt root 16).free root, if (M.dropSt root 16).isUsed root then 0 else 10) := by rw [hR]; unfold Mm.drop; simp [hc]
    have H := Lib.hid h
    have HM := Lib.hid hm
    have hck := check_any (h.same0 (same_alloc (.cells #[.pointer (some ⟨f, 0, none⟩)] 24))) root 0
    rw [hc] at hck
    have HCK := Lib.hid hck
    clear h hm hR hck hc
    refine (callsIn_wide (n := 0)).1 ?_
    refine callsIn_of_wp_marks Try.func37 rfl trivial ?_ rfl
    simp only [Try.ntmps37, List.size_toArray, List.length_cons, List.length_nil, Nat.reduceAdd, Nat.reduceSub, Array.replicate_succ, Array.replicate_zero, List.push_toArray, List.append_toArray, List.nil_append, List.cons_append]
    gi_wp2_with fail
    refine CallsIn.mono (callsIn_wide.2 HCK.out) ?_
    rintro e w1 ⟨rfl, hs1⟩
    have b0 := hs1.cell (a := ⟨w.heap.size, 0, none⟩) (v := .pointer (some ⟨f, 0, none⟩)) (by simp) (by simp)
    have hw1 := World.block_lt_of_cell? _ _ b0
    simp only at hw1
    have hs01 : Same (fun _ => False) w w1 := (same_alloc _).trans hs1
    gi_wp2_with (gi_at_call 59; refine CallsIn.mono (callsIn_wide.2 (entries_any _ _ _)) ?_; rintro e w' ⟨rfl, rfl⟩)
    refine range_wide (gf := 101) (lb := #[.pointer (some ⟨w1.heap.size, 0, none⟩), .pointer (some ⟨w1.heap.size + 1, 0, none⟩)]) rfl (enters_of Try.func101 (by kernel_rfl) rfl) ?_
    intro rec D L W1 hD hL hrule hs2 hl1 hd1 _
    simp only [World.size_alloc, World.size_setCell] at hD
    have hb0 : W1.cell? ⟨w1.heap.size, 0, none⟩ = some (.pointer (some ⟨f, 0, none⟩)) := hs2.cell (by simp [go_sem]) (by simp)
    have hb1 : W1.cell? ⟨w1.heap.size + 1, 0, none⟩ = some (.int .i64 root) := hs2.cell (by simp [go_sem]) (by simp)
    have hb2 : W1.cell? ⟨w.heap.size, 0, none⟩ = some (.pointer (some ⟨f, 0, none⟩)) := hs2.cell ((same_alloc _ |>.alloc _).cell b0 (by simp)) (by simp)
    have hs3 : Same (fun _ => False) w W1 := ((hs01.alloc _).alloc _).trans (hs2.mono (by simp))
    have hM1 := H.out.same0 hs3
    clear hs1 hs2 b0
    refine Calls.mono (entries1 L w1.heap.size (w1.heap.size + 1) f fb root (fun i M' W => M' = M.dropSt root i ∧ MemAt W f fb M' ∧ W.cell? ⟨w1.heap.size, 0, none⟩ = some (.pointer (some ⟨f, 0, none⟩)) ∧ W.cell? ⟨w1.heap.size + 1, 0, none⟩ = some (.int .i64 root) ∧ W.cell? ⟨w.heap.size, 0, none⟩ = some (.pointer (some ⟨f, 0, none⟩)) ∧
        Same (fun k => k = fb ∨ w.heap.size ≤ k) w W ∧ W.heap[L]? = some (rec .ready none) ∧ W.heap[D]? = some (.deferred (some [])))
      (fun W => False) ?_ ?_ ?_ ?_ W1 M ⟨rfl, hM1, hb0, hb1, hb2, hs3.mono (fun _ _ h => h.elim), hl1, hd1⟩) ?_
    · rintro i M' W W' ⟨rfl, h1, h2, h3, h4, h5, h6, h7⟩ hs
      exact ⟨rfl, h1.same0 hs, hs.cell h2 (by simp), hs.cell h3 (by simp), hs.cell h4 (by simp), h5.trans (hs.mono (fun _ _ h => h.elim)), hs.block h6 (by simp), hs.block h7 (by simp)⟩
    · rintro i M' W ⟨rfl, h1, h2, h3, h4, h5, h6, h7⟩
      exact ⟨h1, h2, h3⟩
    · rintro i M' W hi ⟨rfl, h1, h2, h3, h4, h5, h6, h7⟩ hz
      refine ⟨?_, h1, h2, h3, h4, h5, h6, h7⟩
      rw [Mm.dropSt, if_pos hz]
    · rintro i M' W hi ⟨hMd, h1, h2, h3, h4, h5, h6, h7⟩ hz
      have hst : M.dropSt root (i + 1) = M'.free (M'.get root i).2 := by rw [Mm.dropSt, ← hMd, if_neg hz]
      obtain ⟨⟨xf, xn⟩, hX⟩ : ∃ x, x = M'.get root i := ⟨_, rfl⟩
      rw [← hX] at hst ⊢
      simp only at hst ⊢
      have HST := Lib.hid hst
      clear hst hX hMd hz
      refine hrule W _ _ h6 rfl ?_
      gi_wp2
      have hA : Same (fun _ => False) W (W.alloc (.cells #[.int .i64 xf, .int .i64 xn] 108)) := same_alloc _
      refine ⟨hA.block h6 (by simp), fun W2 hs2 hz2 hl2 => ?_⟩
      have hw2 := World.block_lt_of_cell? _ _ h4
      have hD2 := (Array.getElem?_eq_some_iff.1 h6).1
      simp only at hw2
      have hsA : Same (fun k => k = L) W W2 := (hA.mono (fun _ _ h => h.elim)).trans (hs2.mono (fun k _ e => e))
      have d2 := hsA.cell h2 (by simp; omega)
      have d3 := hsA.cell h3 (by simp; omega)
      have d4 := hsA.cell h4 (by simp; omega)
      have x0 : W2.cell? ⟨W.heap.size, 0, none⟩ = some (.int .i64 xf) := hs2.cell (by simp) (by simp; omega)
      have x1 : W2.cell? ⟨W.heap.size, 1, none⟩ = some (.int .i64 xn) := hs2.cell (by simp) (by simp; omega)
      have dd := hsA.block h7 (by omega)
      have dl := hl2
      have hM3 := h1.same hsA (by omega) (by omega)
      have hs3 : Same (fun k => k = fb ∨ w.heap.size ≤ k) w W2 := h5.trans (hsA.mono (fun k _ e => by omega))
      gi_wp2_with fail
      refine CallsIn.mono (CallsIn.inRound L (callsIn_wide.2 (free_any hM3 xn))) ?_
      rintro e W4 ⟨rfl, hM4, hs4⟩
      have e2 := hs4.cell d2 (by simp; omega)
      have e3 := hs4.cell d3 (by simp; omega)
      have e4 := hs4.cell d4 (by simp; omega)
      have el := hs4.block dl (by omega)
      have ed := hs4.block dd (by omega)
      have hs5 := hs3.trans (hs4.mono (fun k _ e => .inl e))
      generalize (if M'.isUsed xn = true then (0 : Int) else 10) = fe
      clear d2 d3 d4 dl dd hM3 hs3 hs4 hl2 x0 x1
      gi_wp2
      exact ⟨el, fun W5 hs6 _ hl5 => ⟨rfl, by rw [HST.out]; exact hM4.same hs6 (by omega) (by omega), hs6.cell e2 (by simp; omega), hs6.cell e3 (by simp; omega), hs6.cell e4 (by simp; omega), hs5.trans (hs6.mono (fun k _ e => by omega)), hl5, hs6.block ed (by omega)⟩⟩
    · rintro e W ⟨⟨v, rfl⟩, ⟨M', hMd, h1, h2, h3, h4, h5, h6, h7⟩ | hf⟩
      · refine ⟨⟨_, rfl⟩, .inl ⟨h6, fun W2 hs2 _ => ?_⟩⟩
        have c4 := hs2.cell h4 (by simp; omega)
        have hd2 := hs2.block h7 (by omega)
        have hM2 := h1.same hs2 (by omega) (by omega)
        have hs3 := h5.trans (hs2.mono (T := fun k => k = fb ∨ w.heap.size ≤ k) (fun k _ e => by omega))
        gi_wp2_with fail
        refine CallsIn.mono (callsIn_wide.2 (free_any hM2 root)) ?_
        rintro e W4 ⟨rfl, hM4, hs4⟩
        have hd4 := hs4.block hd2 (by omega)
        have hm2 := HM.out
        rw [← hMd] at hm2
        have HM2 := Lib.hid hm2
        clear hm2
        obtain ⟨fe, hfe⟩ : ∃ fe, fe = (if M'.isUsed root = true then (0 : Int) else 10) := ⟨_, rfl⟩
        rw [← hfe]
        have HFE := Lib.hid hfe
        clear hfe
        gi_wp2
        refine leaves_mark hd4 fun W5 hs6 _ => ⟨results_tmp rfl _ _ _, ?_⟩
        rw [HM2.out, ← HFE.out]
        exact ⟨rfl, hM4.same hs6 (by omega) (by omega), ((hs3.trans (hs4.mono (fun k _ e => .inl e))).trans (hs6.mono (fun k _ e => by omega))).mono (fun k hk h => by omega)⟩
      · exact hf.elim
  · have hm : R = (M, M.check root 0) := by rw [hR]; unfold Mm.drop; simp [hc]
    have hb : (M.check root 0 == 0) = false := by simpa using hc
    have hck := check_any (h.same0 (same_alloc (.cells #[.pointer (some ⟨f, 0, none⟩)] 24))) root 0
    rw [hm]
    clear hm hR hc
    refine (callsIn_wide (n := 0)).1 ?_
    refine callsIn_of_wp_marks Try.func37 rfl trivial ?_ rfl
    simp only [Try.ntmps37, List.size_toArray, List.length_cons, List.length_nil, Nat.reduceAdd, Nat.reduceSub, Array.replicate_succ, Array.replicate_zero, List.push_toArray, List.append_toArray, List.nil_append, List.cons_append]
    gi_wp2_with fail
    refine CallsIn.mono (callsIn_wide.2 hck) ?_
    rintro e w1 ⟨rfl, hs1⟩
    gi_wp2
    have hs01 : Same (fun _ => False) w w1 := (same_alloc _).trans hs1
    refine leaves_nil (results_tmp rfl _ _ _) ⟨rfl, h.same0 hs01, hs01.mono (fun _ _ h => h.elim)⟩
end Go.Proofs.Ytlbgnmcjdmdjpaa
namespace Go.Proofs.Ytlbgnmcjdmdjpaa
open Go.RowKit Go.Shelf
attribute [local go_sem] Oper.semAt_some

theorem pages_nil (w : World) (root : Int) : Calls Try.prog 22 #[.pointer none, .int .i64 root] w fun e w' => e = .returned (.tuple #[.slice none 0 0, .int .i64 1]) ∧ Same (fun _ => False) w w' := by
  refine (callsIn_wide (n := 0)).1 ?_
  refine callsIn_of_wp_marks Try.func22 rfl trivial ?_ rfl
  simp only [Try.ntmps22, List.size_toArray, List.length_cons, List.length_nil, Nat.reduceAdd, Nat.reduceSub, Array.replicate_succ, Array.replicate_zero, List.push_toArray, List.append_toArray, List.nil_append, List.cons_append]
  gi_wp2_with (gi_at_call 58; refine CallsIn.mono (callsIn_wide.2 (check_nil _ _ _)) ?_; rintro e w' ⟨rfl, rfl⟩)
  refine leaves_nil (results_tmp2 rfl _ _ _) ⟨rfl, same_alloc _⟩
theorem pages_bad {w : World} {f fb : Nat} {M : Mm} (h : MemAt w f fb M) (root : Int) (hc : M.check root 0 ≠ 0) :
    Calls Try.prog 22 #[.pointer (some ⟨f, 0, none⟩), .int .i64 root] w fun e w' => e = .returned (.tuple #[.slice none 0 0, .int .i64 (M.check root 0)]) ∧ Same (fun _ => False) w w' := by
  have hb : (M.check root 0 == 0) = false := by simpa using hc
  have hck := check_any (h.same0 (same_alloc (.cells #[.pointer (some ⟨f, 0, none⟩)] 24))) root 0
  clear hc
  refine (callsIn_wide (n := 0)).1 ?_
  refine callsIn_of_wp_marks Try.func22 rfl trivial ?_ rfl
  simp only [Try.ntmps22, List.size_toArray, List.length_cons, List.length_nil, Nat.reduceAdd, Nat.reduceSub, Array.replicate_succ, Array.replicate_zero, List.push_toArray, List.append_toArray, List.nil_append, List.cons_append]
  gi_wp2_with fail
  refine CallsIn.mono (callsIn_wide.2 hck) ?_
  rintro e w1 ⟨rfl, hs1⟩
  gi_wp2
  refine leaves_nil (results_tmp2 rfl _ _ _) ⟨rfl, (same_alloc _).trans hs1⟩
theorem root_any {w : World} {f fb : Nat} {M : Mm} (h : MemAt w f fb M) :
    Calls Try.prog 21 #[.pointer (some ⟨f, 0, none⟩)] w fun e w' =>
      ((∀ i, i < M.n → 0 < M.R i) ∧ e = .returned (.tuple #[.int .i64 0, .int .i64 11]) ∧ MemAt w' f fb M ∧ Same (fun _ => False) w w') ∨
      (∃ k, k < M.n ∧ M.R k ≤ 0 ∧ (∀ i, i < k → 0 < M.R i) ∧ e = .returned (.tuple #[.int .i64 k, .int .i64 0]) ∧ MemAt w' f fb (M.alloc k) ∧ Same (· = fb) w w') := by
  go_enter Try.func21, Try.ntmps21
  go_wp2_with fail
  refine (alloc_any h).mono ?_
  rintro e w' (⟨h1, rfl, h2, h3⟩ | ⟨k, h0, h1, h2, rfl, h3, h4⟩)
  · go_wp2
    go_ret2
    exact .inl ⟨h1, rfl, h2, h3⟩
  · go_wp2
    go_ret2
    exact .inr ⟨k, h0, h1, h2, rfl, h3, h4⟩
end Go.Proofs.Ytlbgnmcjdmdjpaa
namespace Go.Proofs.Ytlbgnmcjdmdjpaa
open Go.RowKit
theorem arr4 {cs : Array Value} {a b c d : Value} (h : cs.size = 4) (h0 : cs.toList[0]? = some a) (h1 : cs.toList[1]? = some b) (h2 : cs.toList[2]? = some c) (h3 : cs.toList[3]? = some d) : cs = #[a, b, c, d] := by
  obtain ⟨l⟩ := cs
  match l, h with
  | [x0, x1, x2, x3], _ => simp_all
theorem in64 {p : Int} (h : (Lit.int .i64 p).wf = true) : In64 p := by
  simp [Lit.wf, IntKind.min, IntKind.max, IntKind.signed, IntKind.bits] at h
  unfold In64; omega
end Go.Proofs.Ytlbgnmcjdmdjpaa
namespace Go.Proofs.Ytlbgnmcjdmdjpaa
/-! The plain law of a table of two levels in memory. -/
theorem Mm.ent_wr (M : Mm) (t i fl fr k j : Nat) (hfl : fl < 256) (hfr : fr < 65536) :
    (M.wr t (4 * i) ⟨#[UInt8.ofNat fl, 0, UInt8.ofNat (fr / 256), UInt8.ofNat fr]⟩).ent k j = if k = t ∧ j = i then ((fl : Int), (fr : Int)) else M.ent k j := by
  have hsz : (⟨#[UInt8.ofNat fl, 0, UInt8.ofNat (fr / 256), UInt8.ofNat fr]⟩ : ByteArray).size = 4 := rfl
  by_cases h : k = t ∧ j = i
  · obtain ⟨rfl, rfl⟩ := h
    rw [if_pos ⟨rfl, rfl⟩]
    simp only [Mm.ent, Mm.wr, hsz]
    rw [if_pos ⟨trivial, by omega, by omega⟩, if_pos ⟨trivial, by omega, by omega⟩, if_pos ⟨trivial, by omega, by omega⟩]
    rw [show 4 * j - 4 * j = 0 by omega, show 4 * j + 2 - 4 * j = 2 by omega, show 4 * j + 3 - 4 * j = 3 by omega]
    simp
    omega
  · rw [if_neg h]
    simp only [Mm.ent, Mm.wr, hsz]
    rw [if_neg (by omega), if_neg (by omega), if_neg (by omega)]
theorem Mm.put_R (M : Mm) (t : Int) (i fl fr : Nat) : (M.put t i fl fr).R = M.R := by unfold Mm.put; split <;> rfl
theorem Mm.put_n (M : Mm) (t : Int) (i fl fr : Nat) : (M.put t i fl fr).n = M.n := by unfold Mm.put; split <;> rfl
theorem Mm.put_B (M : Mm) (t : Nat) (i fl fr x o : Nat) (hx : x ≠ t) : (M.put t i fl fr).B x o = M.B x o := by
  unfold Mm.put
  split
  · simp only [Mm.wr, Int.toNat_natCast]; rw [if_neg (by omega)]
  · rfl
theorem Mm.isUsed_nat {M : Mm} {k : Nat} (hk : k < M.n) (h : 0 < M.R k) : M.isUsed k = true := by simp [Mm.isUsed]; omega
theorem Mm.put_ent {M : Mm} {t : Nat} (ht : t < M.n) (hR : 0 < M.R t) (i fl fr k j : Nat) (hfl : fl < 256) (hfr : fr < 65536) :
    (M.put t i fl fr).ent k j = if k = t ∧ j = i then ((fl : Int), (fr : Int)) else M.ent k j := by
  unfold Mm.put
  rw [if_pos (Mm.isUsed_nat ht hR)]
  exact Mm.ent_wr M t i fl fr k j hfl hfr
theorem Mm.alloc_ent (M : Mm) (a k j : Nat) : (M.alloc a).ent k j = if k = a then (0, 0) else M.ent k j := by
  unfold Mm.ent Mm.alloc
  by_cases h : k = a <;> simp [h]
theorem Mm.setR_ent (M : Mm) (a : Nat) (v : Int) (k j : Nat) : (M.setR a v).ent k j = M.ent k j := rfl
theorem nfree_congr {R R' : Nat → Int} : ∀ n : Nat, (∀ i, i < n → (0 < R i ↔ 0 < R' i)) → nfree R n = nfree R' n
  | 0, _ => rfl
  | n + 1, h => by
    simp only [nfree, nfree_congr n (fun i hi => h i (by omega))]
    by_cases h2 : 0 < R n
    · rw [if_pos h2, if_pos ((h n (by omega)).1 h2)]
    · rw [if_neg h2, if_neg (fun hh => h2 ((h n (by omega)).2 hh))]
/-- One frame more is in use. -/
theorem nfree_take {R R' : Nat → Int} {n k : Nat} (hk : k < n) (h0 : ¬ 0 < R k) (h1 : 0 < R' k) (h : ∀ i, i ≠ k → R' i = R i) : nfree R n = nfree R' n + 1 := by
  induction n with
  | zero => omega
  | succ n ih =>
    by_cases e : k = n
    · subst e
      simp only [nfree, if_neg h0, if_pos h1]
      rw [nfree_congr (R := R) (R' := R') k (fun i hi => by rw [h i (by omega)])]
    · simp only [nfree, ih (by omega)]
      rw [h n (by omega)]
      omega
def tcnt (T : Nat → Option Nat) : Nat → Nat
  | 0 => 0
  | i + 1 => tcnt T i + if (T i).isSome then 1 else 0
theorem tcnt_congr {T T' : Nat → Option Nat} : ∀ n : Nat, (∀ i, i < n → (T i).isSome = (T' i).isSome) → tcnt T n = tcnt T' n
  | 0, _ => rfl
  | n + 1, h => by simp only [tcnt, tcnt_congr n (fun i hi => h i (by omega)), h n (by omega)]
theorem tcnt_take {T T' : Nat → Option Nat} {n k : Nat} (hk : k < n) (h0 : (T k).isSome = false) (h1 : (T' k).isSome = true) (h : ∀ i, i ≠ k → T' i = T i) : tcnt T' n = tcnt T n + 1 := by
  induction n with
  | zero => omega
  | succ n ih =>
    by_cases e : k = n
    · subst e
      simp only [tcnt, h0, h1]
      rw [tcnt_congr k (fun i hi => by rw [h i (by omega)])]
      simp
    · simp only [tcnt, ih (by omega)]
      rw [h n (by omega)]
      omega
/-- A root and its tables; T tells which. -/
structure Mm.Tree (M : Mm) (r : Nat) (T : Nat → Option Nat) (cu : Nat) : Prop where
  n2 : M.n ≤ 256
  rn : r < M.n
  rR : M.R r = 1
  tb : ∀ i k, T i = some k → i < 16 ∧ k < M.n ∧ k ≠ r ∧ M.R k = 1
  inj : ∀ i j k, T i = some k → T j = some k → i = j
  top0 : ∀ i, i < 16 → T i = none → M.ent r i = (0, 0)
  top1 : ∀ i k, T i = some k → M.ent r i = (1, (k : Int))
  low : ∀ i k j, T i = some k → j < 16 → (M.ent k j).1 = 0 → M.ent k j = (0, 0)
  ne : ∀ i k, T i = some k → ∃ j, j < 16 ∧ (M.ent k j).1 ≠ 0
  cnt : nfree M.R M.n + cu + tcnt T 16 = M.n
/-- What an act on a root leaves of the other frames. -/
structure Mm.Kept (M M' : Mm) (r : Nat) (T T' : Nat → Option Nat) : Prop where
  keepR : ∀ x, 0 < M.R x → (∀ i, T i ≠ some x) → M'.R x = M.R x
  keepT : ∀ i k, T' i = some k → T i = some k ∨ ¬ 0 < M.R k
  keepB : ∀ x, 0 < M.R x → x ≠ r → (∀ i, T i ≠ some x) → ∀ o, M'.B x o = M.B x o
theorem Mm.Kept.refl (M : Mm) (r : Nat) (T : Nat → Option Nat) : M.Kept M r T T := ⟨fun _ _ _ => rfl, fun _ _ h => .inl h, fun _ _ _ _ _ => rfl⟩
/-- What stands at a page: flags, frame. -/
def Mm.lk (M : Mm) (r : Int) (p : Nat) : Int × Int := if (M.get r (p / 16)).1 = 0 then (0, 0) else M.get (M.get r (p / 16)).2 (p % 16)
theorem Mm.lk_tree {M : Mm} {r : Nat} {T : Nat → Option Nat} {cu : Nat} (h : M.Tree r T cu) {p : Nat} (hp : p < 256) : M.lk r p = match T (p / 16) with | none => (0, 0) | some k => M.ent k (p % 16) := by
  have hu : M.isUsed r = true := Mm.isUsed_nat h.rn (by rw [h.rR]; decide)
  unfold Mm.lk
  have hg : M.get r (p / 16) = M.ent r (p / 16) := by simp [Mm.get, hu]
  rw [hg]
  cases hT : T (p / 16) with
  | none => rw [h.top0 _ (by omega) hT]; rfl
  | some k =>
    rw [h.top1 _ _ hT]
    have := h.tb _ _ hT
    have hu2 : M.isUsed k = true := Mm.isUsed_nat this.2.1 (by rw [this.2.2.2]; decide)
    simp [Mm.get, hu2]
theorem Mm.Tree.check {M : Mm} {r : Nat} {T : Nat → Option Nat} {cu : Nat} (h : M.Tree r T cu) (page : Int) : M.check r page = if 0 ≤ page ∧ page ≤ 255 then 0 else 2 := by
  have hu : M.isUsed r = true := Mm.isUsed_nat h.rn (by rw [h.rR]; decide)
  simp [Mm.check, hu]
theorem Mm.walk_lk (M : Mm) (r : Int) (p : Nat) (hc : M.check r p = 0) : M.walk r p = if (M.lk r p).1 = 0 then (0, 0, 30) else ((M.lk r p).2, (M.lk r p).1, 0) := by
  simp only [Mm.walk, hc, ne_eq, not_true_eq_false, if_false, Int.toNat_natCast, Mm.lk]
  by_cases h1 : (M.get r (p / 16)).1 = 0
  · simp [h1]
  · simp [h1]
theorem Mm.Tree.walk {M : Mm} {r : Nat} {T : Nat → Option Nat} {cu : Nat} (h : M.Tree r T cu) {p : Nat} (hp : p < 256) : M.walk r p = if (M.lk r p).1 = 0 then (0, 0, 30) else ((M.lk r p).2, (M.lk r p).1, 0) :=
  M.walk_lk r p (by rw [h.check, if_pos (by omega)])
theorem Mm.Tree.walk_out {M : Mm} {r : Nat} {T : Nat → Option Nat} {cu : Nat} (h : M.Tree r T cu) {page : Int} (hp : ¬ (0 ≤ page ∧ page ≤ 255)) : M.walk r page = (0, 0, 2) := by
  have := h.check page
  rw [if_neg hp] at this
  simp [Mm.walk, this]
theorem Mm.least_spec {M : Mm} {k : Nat} (h : M.least = some k) : k < M.n ∧ M.R k ≤ 0 ∧ ∀ i, i < k → 0 < M.R i := by
  unfold Mm.least at h
  rw [List.find?_range_eq_some] at h
  obtain ⟨h1, h2, h3⟩ := h
  refine ⟨List.mem_range.1 h2, by simpa using h1, fun i hi => ?_⟩
  have := h3 i hi
  simp at this; omega

theorem Mm.map_new {M : Mm} {r : Nat} {T : Nat → Option Nat} {cu : Nat} (h : M.Tree r T cu) {i : Nat} (hi : i < 16) (hT : T i = none) {k : Nat} (hl : M.least = some k) {j fl fr : Nat} (hj : j < 16) (hfl : fl < 256) (hfr : fr < 65536) (hfl0 : fl ≠ 0) :
    ((M.alloc k).put r i 1 k).mapLow k j fl fr = (((M.alloc k).put r i 1 k).put k j fl fr, 0) ∧
      (((M.alloc k).put r i 1 k).put k j fl fr).Tree r (fun x => if x = i then some k else T x) cu ∧
      (((M.alloc k).put r i 1 k).put k j fl fr).n = M.n ∧
      (((M.alloc k).put r i 1 k).put k j fl fr).ent k j = ((fl : Int), (fr : Int)) ∧
      (∀ y, y < 16 → y ≠ j → (((M.alloc k).put r i 1 k).put k j fl fr).ent k y = (0, 0)) ∧
      (∀ x y, x ≠ k → x ≠ r → (((M.alloc k).put r i 1 k).put k j fl fr).ent x y = M.ent x y) ∧
      M.Kept (((M.alloc k).put r i 1 k).put k j fl fr) r T (fun x => if x = i then some k else T x) := by
  obtain ⟨hk, hz, -⟩ := Mm.least_spec hl
  have hn2 := h.n2
  have hkr : k ≠ r := by intro e; subst e; have := h.rR; omega
  have hkT : ∀ x y, T x = some y → y ≠ k := by intro x y hx e; subst e; have := (h.tb _ _ hx).2.2.2; omega
  obtain ⟨M1, h1⟩ : ∃ M1, M1 = M.alloc k := ⟨_, rfl⟩
  have n1 : M1.n = M.n := by rw [h1]; rfl
  have R1 : ∀ x, M1.R x = if x = k then 1 else M.R x := by intro x; rw [h1]; rfl
  have R1k : M1.R k = 1 := by rw [R1, if_pos rfl]
  have R1r : M1.R r = 1 := by rw [R1, if_neg (Ne.symm hkr)]; exact h.rR
  have E1 : ∀ x y, M1.ent x y = if x = k then (0, 0) else M.ent x y := by intro x y; rw [h1]; exact Mm.alloc_ent M k x y
  obtain ⟨M2, h2⟩ : ∃ M2, M2 = M1.put r i 1 k := ⟨_, rfl⟩
  have n2 : M2.n = M.n := by rw [h2, Mm.put_n, n1]
  have R2 : M2.R = M1.R := by rw [h2, Mm.put_R]
  have E2 : ∀ x y, M2.ent x y = if x = r ∧ y = i then ((1 : Int), (k : Int)) else M1.ent x y := by
    intro x y
    rw [h2, Mm.put_ent (by rw [n1]; exact h.rn) (by rw [R1r]; decide) i 1 k x y (by omega) (by omega)]
    rfl
  obtain ⟨M3, h3⟩ : ∃ M3, M3 = M2.put k j fl fr := ⟨_, rfl⟩
  have n3 : M3.n = M.n := by rw [h3, Mm.put_n, n2]
  have R3 : M3.R = M1.R := by rw [h3, Mm.put_R, R2]
  have E3 : ∀ x y, M3.ent x y = if x = k ∧ y = j then ((fl : Int), (fr : Int)) else M2.ent x y := by
    intro x y
    rw [h3, Mm.put_ent (by rw [n2]; exact hk) (by rw [R2, R1k]; decide) j fl fr x y hfl hfr]
  rw [← h1, ← h2, ← h3]
  have hgz : M2.get k j = (0, 0) := by
    unfold Mm.get
    split
    · rw [Int.toNat_natCast, E2, if_neg (by omega), E1, if_pos rfl]
    · rfl
  refine ⟨?_, ?_, n3, ?_, ?_, ?_, ?_, ?_, ?_⟩
  · unfold Mm.mapLow; rw [if_pos hgz, ← h3]
  · refine ⟨by rw [n3]; exact hn2, by rw [n3]; exact h.rn, by rw [R3]; exact R1r, ?_, ?_, ?_, ?_, ?_, ?_, ?_⟩
    · intro x y hx
      by_cases e : x = i
      · subst e
        simp at hx; subst hx
        exact ⟨hi, by rw [n3]; exact hk, hkr, by rw [R3]; exact R1k⟩
      · simp only [if_neg e] at hx
        obtain ⟨a, b, c, d⟩ := h.tb x y hx
        exact ⟨a, by rw [n3]; exact b, c, by rw [R3, R1, if_neg (hkT _ _ hx)]; exact d⟩
    · intro x y z hx hy
      by_cases e : x = i <;> by_cases e' : y = i
      · omega
      · simp only [if_pos e, if_neg e', Option.some.injEq] at hx hy; subst hx; exact absurd rfl (hkT _ _ hy)
      · simp only [if_pos e', if_neg e, Option.some.injEq] at hx hy; subst hy; exact absurd rfl (hkT _ _ hx)
      · simp only [if_neg e, if_neg e'] at hx hy; exact h.inj _ _ _ hx hy
    · intro x hx hn
      by_cases e : x = i
      · simp [e] at hn
      · simp only [if_neg e] at hn
        rw [E3, if_neg (by omega), E2, if_neg (by omega), E1, if_neg (by omega)]
        exact h.top0 x hx hn
    · intro x y hx
      by_cases e : x = i
      · simp only [if_pos e, Option.some.injEq] at hx; subst hx; subst e
        rw [E3, if_neg (by omega), E2, if_pos ⟨rfl, rfl⟩]
      · simp only [if_neg e] at hx
        rw [E3, if_neg (by omega), E2, if_neg (by omega), E1, if_neg (by omega)]
        exact h.top1 x y hx
    · intro x y z hx hz
      by_cases e : x = i
      · simp only [if_pos e, Option.some.injEq] at hx; subst hx; subst e
        rw [E3]
        by_cases e2 : z = j
        · rw [if_pos ⟨rfl, e2⟩]; intro hh; simp only at hh; omega
        · rw [if_neg (by omega), E2, if_neg (by omega), E1, if_pos rfl]; intro _; rfl
      · simp only [if_neg e] at hx
        have := hkT _ _ hx
        have h5 := (h.tb _ _ hx).2.2.1
        rw [E3, if_neg (by omega), E2, if_neg (by omega), E1, if_neg (by omega)]
        exact h.low x y z hx hz
    · intro x y hx
      by_cases e : x = i
      · simp only [if_pos e, Option.some.injEq] at hx; subst hx; subst e
        refine ⟨j, hj, ?_⟩
        rw [E3, if_pos ⟨rfl, rfl⟩]
        simp only; omega
      · simp only [if_neg e] at hx
        have := hkT _ _ hx
        have h5 := (h.tb _ _ hx).2.2.1
        obtain ⟨z, hz1, hz2⟩ := h.ne _ _ hx
        refine ⟨z, hz1, ?_⟩
        rw [E3, if_neg (by omega), E2, if_neg (by omega), E1, if_neg (by omega)]
        exact hz2
    · have c := h.cnt
      rw [n3]
      have a1 := nfree_take (R := M.R) (R' := M3.R) (n := M.n) hk (by omega) (by rw [R3, R1k]; decide) (fun x hx => by rw [R3, R1, if_neg hx])
      have a2 := tcnt_take (T := T) (T' := fun x => if x = i then some k else T x) (n := 16) hi (by rw [hT]; rfl) (by simp) (fun x hx => by simp [hx])
      omega
  · rw [E3, if_pos ⟨rfl, rfl⟩]
  · intro y hy hyj
    rw [E3, if_neg (by omega), E2, if_neg (by omega), E1, if_pos rfl]
  · intro x y hxk hxr
    rw [E3, if_neg (by omega), E2, if_neg (by omega), E1, if_neg hxk]
  · intro x hx _
    rw [R3, R1, if_neg (by intro e; subst e; omega)]
  · intro x y hy
    by_cases e : x = i
    · simp only [if_pos e, Option.some.injEq] at hy; subst hy; right; omega
    · simp only [if_neg e] at hy; exact .inl hy
  · intro x hx hxr _ o
    have hxk : x ≠ k := by intro e; subst e; omega
    rw [h3, Mm.put_B _ _ _ _ _ _ _ hxk, h2, Mm.put_B _ _ _ _ _ _ _ hxr, h1]
    simp [Mm.alloc, hxk]

theorem Mm.map_old {M : Mm} {r : Nat} {T : Nat → Option Nat} {cu : Nat} (h : M.Tree r T cu) {i k : Nat} (hT : T i = some k) {j fl fr : Nat} (hj : j < 16) (hfl : fl < 256) (hfr : fr < 65536) (hfl0 : fl ≠ 0) :
    (M.put k j fl fr).Tree r T cu ∧ (M.put k j fl fr).n = M.n ∧ (∀ x y, (M.put k j fl fr).ent x y = if x = k ∧ y = j then ((fl : Int), (fr : Int)) else M.ent x y) ∧ M.Kept (M.put k j fl fr) r T T := by
  obtain ⟨a1, a2, a3, a4⟩ := h.tb _ _ hT
  have E : ∀ x y, (M.put k j fl fr).ent x y = if x = k ∧ y = j then ((fl : Int), (fr : Int)) else M.ent x y := fun x y => Mm.put_ent a2 (by rw [a4]; decide) j fl fr x y hfl hfr
  refine ⟨⟨by rw [Mm.put_n]; exact h.n2, by rw [Mm.put_n]; exact h.rn, by rw [Mm.put_R]; exact h.rR, ?_, h.inj, ?_, ?_, ?_, ?_, ?_⟩, Mm.put_n _ _ _ _ _, E, ⟨fun x _ _ => by rw [Mm.put_R], fun _ _ h => .inl h, fun x _ _ hx o => Mm.put_B _ _ _ _ _ _ _ (fun e => hx i (e ▸ hT))⟩⟩
  · intro x y hx; rw [Mm.put_n, Mm.put_R]; exact h.tb x y hx
  · intro x hx hn; rw [E, if_neg (by omega)]; exact h.top0 x hx hn
  · intro x y hx; rw [E, if_neg (by omega)]; exact h.top1 x y hx
  · intro x y z hx hz
    rw [E]
    split
    · intro hh; simp only at hh; omega
    · exact h.low x y z hx hz
  · intro x y hx
    obtain ⟨z, hz1, hz2⟩ := h.ne _ _ hx
    refine ⟨z, hz1, ?_⟩
    rw [E]
    split
    · simp only; omega
    · exact hz2
  · rw [Mm.put_R, Mm.put_n]; exact h.cnt

/-- Map: an error changes nothing; else the page stands as told, and no other one is touched. -/
theorem Mm.map_law {M : Mm} {r : Nat} {T : Nat → Option Nat} {cu : Nat} (h : M.Tree r T cu) (page frame flags : Int) :
    ((M.map r page frame flags).2 ≠ 0 ∧ (M.map r page frame flags).1 = M) ∨
    ((M.map r page frame flags).2 = 0 ∧ ∃ p : Nat, page = p ∧ p < 256 ∧ flags ≠ 0 ∧ (M.lk r p).1 = 0 ∧ (∃ T', (M.map r page frame flags).1.Tree r T' cu ∧ M.Kept (M.map r page frame flags).1 r T T') ∧ (M.map r page frame flags).1.n = M.n ∧
      (M.map r page frame flags).1.lk r p = (flags, frame) ∧ ∀ q, q < 256 → q ≠ p → (M.map r page frame flags).1.lk r q = M.lk r q) := by
  have hck := h.check page
  by_cases hpg : 0 ≤ page ∧ page ≤ 255
  · rw [if_pos hpg] at hck
    obtain ⟨p, rfl⟩ := Int.eq_ofNat_of_zero_le hpg.1
    by_cases hbad : (0 ≤ frame ∧ frame ≤ 255) ∧ (0 ≤ flags ∧ flags ≤ 7) ∧ flags % 2 = 1
    · obtain ⟨hf, hl, ho⟩ := hbad
      obtain ⟨fr, rfl⟩ := Int.eq_ofNat_of_zero_le hf.1
      obtain ⟨fl, rfl⟩ := Int.eq_ofNat_of_zero_le hl.1
      have hu : M.isUsed r = true := Mm.isUsed_nat h.rn (by rw [h.rR]; decide)
      have hg : M.get r (p / 16) = M.ent r (p / 16) := by simp [Mm.get, hu]
      have hp : p < 256 := by omega
      have hm : M.map r p fr fl = if M.get r (p / 16) = (0, 0) then match M.least with
          | none => (M, 11)
          | some k => ((M.alloc k).put r (p / 16) 1 k).mapLow k (p % 16) fl fr
        else M.mapLow (M.get r (p / 16)).2 (p % 16) fl fr := by
        simp only [Mm.map, hck, ne_eq, not_true_eq_false, if_false, Int.toNat_natCast]; rw [if_neg (fun hh => hh ⟨hf, hl, ho⟩)]; try rfl
      cases hT : T (p / 16) with
      | none =>
        rw [hm, if_pos (by rw [hg]; exact h.top0 _ (by omega) hT)]
        cases hle : M.least with
        | none => left; exact ⟨by simp, rfl⟩
        | some k =>
          right
          obtain ⟨g1, g2, g3, g4, g5, g6, g7⟩ := Mm.map_new h (i := p / 16) (by omega) hT hle (j := p % 16) (fl := fl) (fr := fr) (by omega) (by omega) (by omega) (by omega)
          simp only [g1]
          obtain ⟨hk, hz, -⟩ := Mm.least_spec hle
          refine ⟨trivial, p, rfl, hp, by omega, ?_, ⟨_, g2, g7⟩, g3, ?_, ?_⟩
          · rw [Mm.lk_tree h hp, hT]
          · rw [Mm.lk_tree g2 hp]; simp only [if_true]; exact g4
          · intro q hq hqp
            rw [Mm.lk_tree g2 hq, Mm.lk_tree h hq]
            by_cases e : q / 16 = p / 16
            · simp only [if_pos e]
              rw [e, hT]
              exact g5 _ (by omega) (by omega)
            · simp only [if_neg e]
              cases hTq : T (q / 16) with
              | none => rfl
              | some z =>
                have hz2 := h.tb _ _ hTq
                exact g6 _ _ (by intro e; subst e; omega) hz2.2.2.1
      | some k =>
        have hne : M.get r (p / 16) = (1, (k : Int)) := by rw [hg]; exact h.top1 _ _ hT
        rw [hm, if_neg (by rw [hne]; simp), hne]
        simp only
        obtain ⟨a1, a2, a3, a4⟩ := h.tb _ _ hT
        have hgk : M.get k (p % 16) = M.ent k (p % 16) := by simp [Mm.get, Mm.isUsed_nat a2 (by rw [a4]; decide)]
        unfold Mm.mapLow
        rw [hgk]
        by_cases hz : M.ent k (p % 16) = (0, 0)
        · right
          rw [if_pos hz]
          obtain ⟨g1, g2, g3, g7⟩ := Mm.map_old h hT (j := p % 16) (fl := fl) (fr := fr) (by omega) (by omega) (by omega) (by omega)
          refine ⟨rfl, p, rfl, hp, by omega, ?_, ⟨_, g1, g7⟩, g2, ?_, ?_⟩
          · rw [Mm.lk_tree h hp, hT]; simp only [hz]
          · rw [Mm.lk_tree g1 hp, hT]; simp only [g3]; simp
          · intro q hq hqp
            rw [Mm.lk_tree g1 hq, Mm.lk_tree h hq]
            cases hTq : T (q / 16) with
            | none => rfl
            | some z =>
              simp only [g3]
              rw [if_neg]
              rintro ⟨e1, e2⟩
              subst e1
              have := h.inj _ _ _ hT hTq
              omega
        · left; rw [if_neg hz]; exact ⟨by simp, rfl⟩
    · left
      have : M.map r p frame flags = (M, 2) := by simp only [Mm.map, hck, ne_eq, not_true_eq_false, if_false, if_pos hbad]
      rw [this]; exact ⟨by simp, rfl⟩
  · left
    rw [if_neg hpg] at hck
    have : M.map r page frame flags = (M, 2) := by simp [Mm.map, hck]
    rw [this]; exact ⟨by simp, rfl⟩

theorem Mm.empty_iff (M : Mm) (t : Int) : M.empty t = true ↔ ∀ i, i < 16 → (M.get t i).1 = 0 := by
  unfold Mm.empty
  simp only [List.all_eq_true, List.mem_range, decide_eq_true_eq]
theorem tcnt_drop {T T' : Nat → Option Nat} {n k : Nat} (hk : k < n) (h0 : (T k).isSome = true) (h1 : (T' k).isSome = false) (h : ∀ i, i ≠ k → T' i = T i) : tcnt T n = tcnt T' n + 1 :=
  tcnt_take hk h1 h0 (fun i hi => (h i hi).symm)
/-- Unmap: an error changes nothing; else the page is none, and no other one is touched. -/
theorem Mm.unmap_law {M : Mm} {r : Nat} {T : Nat → Option Nat} {cu : Nat} (h : M.Tree r T cu) (page : Int) :
    ((M.unmap r page).2.2 ≠ 0 ∧ (M.unmap r page).1 = M ∧ ∀ p : Nat, page = p → p < 256 → (M.lk r p).1 = 0) ∨
    ((M.unmap r page).2.2 = 0 ∧ ∃ p : Nat, page = p ∧ p < 256 ∧ (M.lk r p).1 ≠ 0 ∧ (M.unmap r page).2.1 = (M.lk r p).2 ∧ (∃ T', (M.unmap r page).1.Tree r T' cu ∧ M.Kept (M.unmap r page).1 r T T') ∧ (M.unmap r page).1.n = M.n ∧
      (M.unmap r page).1.lk r p = (0, 0) ∧ ∀ q, q < 256 → q ≠ p → (M.unmap r page).1.lk r q = M.lk r q) := by
  by_cases hpg : 0 ≤ page ∧ page ≤ 255
  · obtain ⟨p, rfl⟩ := Int.eq_ofNat_of_zero_le hpg.1
    have hp : p < 256 := by omega
    have hw := h.walk hp
    by_cases hz : (M.lk r p).1 = 0
    · rw [if_pos hz] at hw
      left
      have : M.unmap r p = (M, 0, 30) := by simp [Mm.unmap, hw]
      rw [this]
      exact ⟨by simp, rfl, fun q hq _ => by obtain rfl : p = q := by omega
                                            exact hz⟩
    · rw [if_neg hz] at hw
      right
      have hu : M.isUsed r = true := Mm.isUsed_nat h.rn (by rw [h.rR]; decide)
      have hg : M.get r (p / 16) = M.ent r (p / 16) := by simp [Mm.get, hu]
      have hm : M.unmap r p = (M.cut r (M.get r (p / 16)).2 (p / 16) (p % 16), (M.lk r p).2, 0) := by
        simp [Mm.unmap, hw]
      have hlk := Mm.lk_tree h hp
      cases hT : T (p / 16) with
      | none => rw [hT] at hlk; rw [hlk] at hz; exact absurd rfl hz
      | some k =>
        rw [hT] at hlk
        simp only at hlk
        rw [hm, hg, h.top1 _ _ hT]
        simp only
        obtain ⟨a1, a2, a3, a4⟩ := h.tb _ _ hT
        have hn2 := h.n2
        have E1 : ∀ x y, (M.put k (p % 16) 0 0).ent x y = if x = k ∧ y = p % 16 then (0, 0) else M.ent x y := fun x y => Mm.put_ent a2 (by rw [a4]; decide) (p % 16) 0 0 x y (by omega) (by omega)
        have R1 := Mm.put_R M k (p % 16) 0 0
        have N1 := Mm.put_n M k (p % 16) 0 0
        obtain ⟨M1, hM1⟩ : ∃ M1, M1 = M.put k (p % 16) 0 0 := ⟨_, rfl⟩
        unfold Mm.cut
        rw [← hM1] at E1 R1 N1 ⊢
        have hgk : ∀ y, M1.get k y = M1.ent k y := by
          intro y
          have : M1.isUsed k = true := Mm.isUsed_nat (by rw [N1]; exact a2) (by rw [R1, a4]; decide)
          simp [Mm.get, this]
        refine ⟨trivial, p, rfl, hp, hz, rfl, ?_⟩
        by_cases he : M1.empty k = true
        · rw [if_pos he]
          have he' := (Mm.empty_iff _ _).1 he
          have hu1 : M1.isUsed k = true := Mm.isUsed_nat (by rw [N1]; exact a2) (by rw [R1, a4]; decide)
          have hfr : M1.free k = M1.setR k (M1.R k - 1) := by simp [Mm.free, hu1]
          obtain ⟨M2, hM2⟩ : ∃ M2, M2 = M1.free k := ⟨_, rfl⟩
          have R2 : ∀ x, M2.R x = if x = k then 0 else M.R x := by
            intro x; rw [hM2, hfr]; unfold Mm.setR; simp only [R1, a4]; rfl
          have N2 : M2.n = M.n := by rw [hM2, hfr, ← N1]; rfl
          have E2 : ∀ x y, M2.ent x y = M1.ent x y := by intro x y; rw [hM2, hfr]; rfl
          rw [← hM2]
          have R2r : M2.R r = 1 := by rw [R2, if_neg (Ne.symm a3)]; exact h.rR
          have E3 : ∀ x y, (M2.put r (p / 16) 0 0).ent x y = if x = r ∧ y = p / 16 then (0, 0) else M1.ent x y := by
            intro x y; rw [Mm.put_ent (by rw [N2]; exact h.rn) (by rw [R2r]; decide) (p / 16) 0 0 x y (by omega) (by omega), E2]; rfl
          have R3 : (M2.put r (p / 16) 0 0).R = M2.R := Mm.put_R _ _ _ _ _
          have N3 : (M2.put r (p / 16) 0 0).n = M.n := by rw [Mm.put_n, N2]
          obtain ⟨M3, hM3⟩ : ∃ M3, M3 = M2.put r (p / 16) 0 0 := ⟨_, rfl⟩
          rw [← hM3] at E3 R3 N3 ⊢
          have hoth : ∀ x y, x ≠ p / 16 → T x = some y → y ≠ k := by
            intro x y hx hy e; subst e; exact hx (h.inj _ _ _ hy hT)
          have tree : M3.Tree r (fun x => if x = p / 16 then none else T x) cu := by
            refine ⟨by rw [N3]; exact hn2, by rw [N3]; exact h.rn, by rw [R3]; exact R2r, ?_, ?_, ?_, ?_, ?_, ?_, ?_⟩
            · intro x y hx
              by_cases e : x = p / 16
              · simp [e] at hx
              · simp only [if_neg e] at hx
                obtain ⟨b1, b2, b3, b4⟩ := h.tb x y hx
                exact ⟨b1, by rw [N3]; exact b2, b3, by rw [R3, R2, if_neg (hoth x y e hx)]; exact b4⟩
            · intro x y z hx hy
              by_cases e : x = p / 16
              · simp [e] at hx
              · by_cases e' : y = p / 16
                · simp [e'] at hy
                · simp only [if_neg e, if_neg e'] at hx hy; exact h.inj _ _ _ hx hy
            · intro x hx hn
              rw [E3]
              by_cases e : x = p / 16
              · rw [if_pos ⟨rfl, e⟩]
              · simp only [if_neg e] at hn
                rw [if_neg (by omega), E1, if_neg (by omega)]
                exact h.top0 x hx hn
            · intro x y hx
              by_cases e : x = p / 16
              · simp [e] at hx
              · simp only [if_neg e] at hx
                rw [E3, if_neg (by omega), E1, if_neg (by omega)]
                exact h.top1 x y hx
            · intro x y z hx hz2
              by_cases e : x = p / 16
              · simp [e] at hx
              · simp only [if_neg e] at hx
                have h5 := (h.tb _ _ hx).2.2.1
                have h6 := hoth x y e hx
                rw [E3, if_neg (by omega), E1, if_neg (by omega)]
                exact h.low x y z hx hz2
            · intro x y hx
              by_cases e : x = p / 16
              · simp [e] at hx
              · simp only [if_neg e] at hx
                have h5 := (h.tb _ _ hx).2.2.1
                have h6 := hoth x y e hx
                obtain ⟨z, hz1, hz2⟩ := h.ne _ _ hx
                exact ⟨z, hz1, by rw [E3, if_neg (by omega), E1, if_neg (by omega)]; exact hz2⟩
            · have c := h.cnt
              rw [N3]
              have b1 := nfree_take (R := M3.R) (R' := M.R) (n := M.n) a2 (by rw [R3, R2, if_pos rfl]; decide) (by rw [a4]; decide) (fun x hx => by rw [R3, R2, if_neg hx])
              have b2 := tcnt_drop (T := T) (T' := fun x => if x = p / 16 then none else T x) (n := 16) (k := p / 16) (by omega) (by rw [hT]; rfl) (by simp) (fun x hx => by simp [hx])
              omega
          have kept : M.Kept M3 r T (fun x => if x = p / 16 then none else T x) := by
            refine ⟨fun x hx hn => ?_, fun x y hy => ?_, fun x hx hxr hn o => ?_⟩
            · have hxk : x ≠ k := fun e => hn (p / 16) (e ▸ hT)
              rw [R3, R2, if_neg hxk]
            · by_cases e : x = p / 16
              · simp [e] at hy
              · simp only [if_neg e] at hy; exact .inl hy
            · have hxk : x ≠ k := fun e => hn (p / 16) (e ▸ hT)
              rw [hM3, Mm.put_B _ _ _ _ _ _ _ hxr, hM2, hfr]
              show M1.B x o = _
              rw [hM1, Mm.put_B _ _ _ _ _ _ _ hxk]
          refine ⟨⟨_, tree, kept⟩, N3, ?_, ?_⟩
          · rw [Mm.lk_tree tree hp]; simp
          · intro q hq hqp
            rw [Mm.lk_tree tree hq, Mm.lk_tree h hq]
            by_cases e : q / 16 = p / 16
            · simp only [if_pos e]
              rw [e, hT]
              have := he' (q % 16) (by omega)
              rw [hgk, E1, if_neg (by omega)] at this
              exact (h.low _ _ _ hT (by omega) this).symm
            · simp only [if_neg e]
              cases hTq : T (q / 16) with
              | none => rfl
              | some z =>
                have h5 := (h.tb _ _ hTq).2.2.1
                have h6 := hoth _ _ e hTq
                simp only
                rw [E3, if_neg (by omega), E1, if_neg (by omega)]
        · rw [if_neg he]
          have he' : ∃ y, y < 16 ∧ (M1.ent k y).1 ≠ 0 := by
            apply Classical.byContradiction
            intro hh
            apply he
            rw [Mm.empty_iff]
            intro y hy
            rw [hgk]
            apply Classical.byContradiction
            intro h3
            exact hh ⟨y, hy, h3⟩
          have tree : M1.Tree r T cu := by
            refine ⟨by rw [N1]; exact hn2, by rw [N1]; exact h.rn, by rw [R1]; exact h.rR, ?_, h.inj, ?_, ?_, ?_, ?_, ?_⟩
            · intro x y hx; rw [N1, R1]; exact h.tb x y hx
            · intro x hx hn; rw [E1, if_neg (by omega)]; exact h.top0 x hx hn
            · intro x y hx; rw [E1, if_neg (by omega)]; exact h.top1 x y hx
            · intro x y z hx hz2
              rw [E1]
              split
              · intro _; rfl
              · exact h.low x y z hx hz2
            · intro x y hx
              by_cases e : x = p / 16
              · subst e
                rw [hT] at hx; cases hx
                exact he'
              · obtain ⟨z, hz1, hz2⟩ := h.ne _ _ hx
                have h6 : y ≠ k := by intro e2; subst e2; exact e (h.inj _ _ _ hx hT)
                exact ⟨z, hz1, by rw [E1, if_neg (by omega)]; exact hz2⟩
            · rw [R1, N1]; exact h.cnt
          refine ⟨⟨_, tree, ⟨fun x _ _ => by rw [R1], fun _ _ h => .inl h, fun x _ _ hn o => by
            have hxk : x ≠ k := fun e => hn (p / 16) (e ▸ hT)
            rw [hM1, Mm.put_B _ _ _ _ _ _ _ hxk]⟩⟩, N1, ?_, ?_⟩
          · rw [Mm.lk_tree tree hp, hT]; simp only; rw [E1, if_pos ⟨rfl, rfl⟩]
          · intro q hq hqp
            rw [Mm.lk_tree tree hq, Mm.lk_tree h hq]
            cases hTq : T (q / 16) with
            | none => rfl
            | some z =>
              simp only [E1]
              rw [if_neg]
              rintro ⟨e1, e2⟩
              subst e1
              have := h.inj _ _ _ hT hTq
              omega
  · left
    have : M.unmap r page = (M, 0, 2) := by simp [Mm.unmap, h.walk_out hpg]
    rw [this]
    exact ⟨by simp, rfl, fun p hq hp => by omega⟩

/-- Dropping: behind i entries as many tables less. -/
theorem Mm.dropSt_law {M : Mm} {r : Nat} {T : Nat → Option Nat} {cu : Nat} (h : M.Tree r T cu) : ∀ i, i ≤ 16 →
    (M.dropSt r i).n = M.n ∧ (∀ x y, (M.dropSt r i).ent x y = M.ent x y) ∧ (M.dropSt r i).R r = 1 ∧ nfree (M.dropSt r i).R M.n = nfree M.R M.n + tcnt T i ∧
      (∀ x y, T x = some y → i ≤ x → (M.dropSt r i).R y = 1)
  | 0, _ => ⟨rfl, fun _ _ => rfl, h.rR, rfl, fun x y hx _ => (h.tb x y hx).2.2.2⟩
  | i + 1, hi => by
    obtain ⟨h1, h2, h3, h4, h5⟩ := Mm.dropSt_law h i (by omega)
    have hu : (M.dropSt r i).isUsed r = true := Mm.isUsed_nat (by rw [h1]; exact h.rn) (by rw [h3]; decide)
    have hg : (M.dropSt r i).get r i = M.ent r i := by simp [Mm.get, hu, h2]
    cases hT : T i with
    | none =>
      have : M.dropSt r (i + 1) = M.dropSt r i := by
        simp only [Mm.dropSt]; rw [if_pos (by rw [hg, h.top0 i (by omega) hT])]
      rw [this]
      exact ⟨h1, h2, h3, by rw [h4]; simp [tcnt, hT], fun x y hx hix => h5 x y hx (by omega)⟩
    | some k =>
      obtain ⟨a1, a2, a3, a4⟩ := h.tb _ _ hT
      have hk1 := h5 i k hT (by omega)
      have huk : (M.dropSt r i).isUsed k = true := Mm.isUsed_nat (by rw [h1]; exact a2) (by rw [hk1]; decide)
      have : M.dropSt r (i + 1) = (M.dropSt r i).setR k 0 := by
        simp only [Mm.dropSt]; rw [if_neg (by rw [hg, h.top1 i k hT]; simp), hg, h.top1 i k hT]
        simp [Mm.free, huk, hk1]
      rw [this]
      have R1 : ∀ x, ((M.dropSt r i).setR k 0).R x = if x = k then 0 else (M.dropSt r i).R x := fun x => rfl
      refine ⟨h1, h2, by rw [R1, if_neg (Ne.symm a3)]; exact h3, ?_, ?_⟩
      · have b1 := nfree_take (R := ((M.dropSt r i).setR k 0).R) (R' := (M.dropSt r i).R) (n := M.n) a2 (by rw [R1, if_pos rfl]; decide) (by rw [hk1]; decide) (fun x hx => by rw [R1, if_neg hx])
        rw [b1, h4]; simp [tcnt, hT]; omega
      · intro x y hx hix
        rw [R1, if_neg]
        · exact h5 x y hx (by omega)
        · intro e; subst e; have := h.inj _ _ _ hx hT; omega
theorem Mm.drop_law {M : Mm} {r : Nat} {T : Nat → Option Nat} {cu : Nat} (h : M.Tree r T cu) : (M.drop r).2 = 0 ∧ (M.drop r).1.n = M.n ∧ nfree (M.drop r).1.R M.n + cu = M.n + 1 := by
  obtain ⟨h1, h2, h3, h4, h5⟩ := Mm.dropSt_law h 16 (Nat.le_refl _)
  have hu : (M.dropSt r 16).isUsed r = true := Mm.isUsed_nat (by rw [h1]; exact h.rn) (by rw [h3]; decide)
  have hd : M.drop r = ((M.dropSt r 16).setR r 0, 0) := by
    have hc := h.check 0
    rw [if_pos (by omega)] at hc
    simp [Mm.drop, hc, hu, Mm.free, h3]
  rw [hd]
  generalize M.dropSt r 16 = M1 at *
  refine ⟨rfl, h1, ?_⟩
  have R1 : ∀ x, (M1.setR r 0).R x = if x = r then 0 else M1.R x := fun x => rfl
  have b1 := nfree_take (R := (M1.setR r 0).R) (R' := M1.R) (n := M.n) h.rn (by rw [R1, if_pos rfl]; decide) (by rw [h3]; decide) (fun x hx => by rw [R1, if_neg hx])
  have c := h.cnt
  rw [b1, h4]
  omega
/-- A new memory, and its root. -/
theorem Mm.tree_new (n : Nat) (h1 : 1 ≤ n) (h2 : n ≤ 256) : (Mm.alloc ⟨n, fun _ => 0, fun _ _ => 0⟩ 0).Tree 0 (fun _ => none) 1 := by
  have R1 : ∀ x, (Mm.alloc ⟨n, fun _ => 0, fun _ _ => 0⟩ 0).R x = if x = 0 then 1 else 0 := fun x => rfl
  refine ⟨h2, h1, rfl, by simp, by simp, ?_, by simp, by simp, by simp, ?_⟩
  · intro i hi _; rw [Mm.alloc_ent, if_pos rfl]
  · have b0 : ∀ m, nfree (fun _ => (0 : Int)) m = m := by intro m; induction m with
      | zero => rfl
      | succ m ih => simp [nfree, ih]
    have b1 := nfree_take (R := fun _ => (0 : Int)) (R' := (Mm.alloc ⟨n, fun _ => 0, fun _ _ => 0⟩ 0).R) (n := n) (k := 0) h1 (by simp) (by rw [R1, if_pos rfl]; decide) (fun x hx => by rw [R1, if_neg hx])
    rw [b0] at b1
    have : tcnt (fun _ => none) 16 = 0 := rfl
    rw [this]
    show nfree _ n + 1 + 0 = n
    omega
/-! The list of a root's pages. -/
/-- Of a table that stands at i, behind k entries. -/
def Mm.pgIn (M : Mm) (t : Int) (i : Nat) : Nat → List Nat
  | 0 => []
  | k + 1 => M.pgIn t i k ++ if (M.get t k).1 = 0 then [] else [16 * i + k]
def Mm.pgTo (M : Mm) (r : Int) : Nat → List Nat
  | 0 => []
  | i + 1 => M.pgTo r i ++ if (M.get r i).1 = 0 then [] else M.pgIn (M.get r i).2 i 16
def Mm.pgL (M : Mm) (r : Int) (n : Nat) : List Nat := (List.range n).filter fun p => decide ((M.lk r p).1 ≠ 0)
theorem Mm.pgL_succ (M : Mm) (r : Int) (n : Nat) : M.pgL r (n + 1) = M.pgL r n ++ if (M.lk r n).1 = 0 then [] else [n] := by
  unfold Mm.pgL
  rw [List.range_succ, List.filter_append]
  by_cases h : (M.lk r n).1 = 0 <;> simp [h]
theorem Mm.pgL_none (M : Mm) (r : Int) (n : Nat) : ∀ k, (∀ j, j < k → (M.lk r (n + j)).1 = 0) → M.pgL r (n + k) = M.pgL r n
  | 0, _ => rfl
  | k + 1, h => by rw [← Nat.add_assoc, Mm.pgL_succ, Mm.pgL_none M r n k (fun j hj => h j (by omega)), if_pos (h k (by omega)), List.append_nil]
theorem Mm.pgIn_pgL (M : Mm) (r : Int) (i : Nat) (h : (M.get r i).1 ≠ 0) : ∀ k, k ≤ 16 → M.pgL r (16 * i + k) = M.pgL r (16 * i) ++ M.pgIn (M.get r i).2 i k
  | 0, _ => by simp [Mm.pgIn]
  | k + 1, hk => by
    have e : M.lk r (16 * i + k) = M.get (M.get r i).2 k := by
      unfold Mm.lk
      rw [show (16 * i + k) / 16 = i by omega, show (16 * i + k) % 16 = k by omega, if_neg h]
    rw [← Nat.add_assoc, Mm.pgL_succ, Mm.pgIn_pgL M r i h k (by omega), Mm.pgIn, List.append_assoc, e]
theorem Mm.pgTo_pgL (M : Mm) (r : Int) : ∀ i, M.pgTo r i = M.pgL r (16 * i)
  | 0 => rfl
  | i + 1 => by
    rw [Mm.pgTo, Mm.pgTo_pgL M r i, show 16 * (i + 1) = 16 * i + 16 by omega]
    by_cases h : (M.get r i).1 = 0
    · rw [if_pos h, List.append_nil, Mm.pgL_none]
      intro j hj
      unfold Mm.lk
      rw [show (16 * i + j) / 16 = i by omega, if_pos h]
    · rw [if_neg h, Mm.pgIn_pgL M r i h 16 (Nat.le_refl _)]
/-- The pages that are mapped. -/
def Mm.pages (M : Mm) (r : Int) : List Nat := M.pgL r 256
theorem Mm.pages_eq (M : Mm) (r : Int) : M.pgTo r 16 = M.pages r := M.pgTo_pgL r 16
theorem Mm.mem_pages {M : Mm} {r : Int} {p : Nat} : p ∈ M.pages r ↔ p < 256 ∧ (M.lk r p).1 ≠ 0 := by
  unfold Mm.pages Mm.pgL
  rw [List.mem_filter, List.mem_range]
  simp
theorem Mm.pgL_congr {M M' : Mm} {r : Int} : ∀ n, (∀ p, p < n → ((M.lk r p).1 = 0 ↔ (M'.lk r p).1 = 0)) → M.pgL r n = M'.pgL r n
  | 0, _ => rfl
  | n + 1, h => by
    rw [Mm.pgL_succ, Mm.pgL_succ, Mm.pgL_congr n (fun p hp => h p (by omega))]
    have := h n (by omega)
    by_cases h0 : (M.lk r n).1 = 0
    · rw [if_pos h0, if_pos (this.1 h0)]
    · rw [if_neg h0, if_neg (fun hh => h0 (this.2 hh))]
theorem Mm.pgL_more {M M' : Mm} {r : Int} {p : Nat} (h0 : (M.lk r p).1 = 0) (h1 : (M'.lk r p).1 ≠ 0) : ∀ n, (∀ q, q < n → q ≠ p → M'.lk r q = M.lk r q) → (M'.pgL r n).length = (M.pgL r n).length + if p < n then 1 else 0
  | 0, _ => rfl
  | n + 1, h => by
    rw [Mm.pgL_succ, Mm.pgL_succ, List.length_append, List.length_append, Mm.pgL_more h0 h1 n (fun q hq => h q (by omega))]
    by_cases e : p = n
    · subst e; rw [if_pos h0, if_neg h1, if_neg (by omega), if_pos (by omega)]; simp
    · rw [h n (by omega) (Ne.symm e)]
      by_cases e2 : p < n
      · rw [if_pos e2, if_pos (show p < n + 1 by omega)]; omega
      · rw [if_neg e2, if_neg (show ¬ p < n + 1 by omega)]; omega
theorem Mm.pgL_len (M : Mm) (r : Int) (n : Nat) : (M.pgL r n).length ≤ n := by
  unfold Mm.pgL; have := List.length_filter_le (fun p => decide ((M.lk r p).1 ≠ 0)) (List.range n); simpa using this
theorem Mm.pages_len (M : Mm) (r : Int) : (M.pages r).length ≤ 256 := M.pgL_len r 256
theorem Mm.pgIn_len (M : Mm) (t : Int) (i : Nat) : ∀ k, (M.pgIn t i k).length ≤ k
  | 0 => Nat.le_refl _
  | k + 1 => by
    have := M.pgIn_len t i k
    simp only [Mm.pgIn, List.length_append]
    split <;> simp <;> omega
theorem Mm.pgTo_len (M : Mm) (r : Int) (i : Nat) : (M.pgTo r i).length ≤ 16 * i := by rw [Mm.pgTo_pgL]; exact M.pgL_len r _

/-- The changes of the sixteen that a row of pages goes through. -/
def runs (last : Int) : List Nat → Nat
  | [] => 0
  | p :: l => (if ((p / 16 : Nat) : Int) ≠ last then 1 else 0) + runs ((p / 16 : Nat) : Int) l
def lastOf (last : Int) : List Nat → Int
  | [] => last
  | p :: l => lastOf ((p / 16 : Nat) : Int) l
theorem runs_append (l l2 : List Nat) : ∀ last, runs last (l ++ l2) = runs last l + runs (lastOf last l) l2 := by
  induction l with
  | nil => intro last; simp [runs, lastOf]
  | cons p l ih => intro last; simp only [List.cons_append, runs, lastOf, ih]; omega
theorem lastOf_append (l l2 : List Nat) : ∀ last, lastOf last (l ++ l2) = lastOf (lastOf last l) l2 := by
  induction l with
  | nil => intro last; rfl
  | cons p l ih => intro last; simp only [List.cons_append, lastOf, ih]
theorem runs_same (i : Nat) : ∀ (l : List Nat) (last : Int), (∀ p ∈ l, p / 16 = i) → last ≠ i → runs last l = (if l = [] then 0 else 1) ∧ lastOf last l = if l = [] then last else (i : Int)
  | [], last, _, _ => by simp [runs, lastOf]
  | p :: l, last, h, hl => by
    have hp := h p (by simp)
    have hin : ∀ (l : List Nat), (∀ p ∈ l, p / 16 = i) → runs (i : Int) l = 0 ∧ lastOf (i : Int) l = i := by
      intro l
      induction l with
      | nil => intro _; exact ⟨rfl, rfl⟩
      | cons q l ih =>
        intro h
        have hq := h q (by simp)
        have := ih (fun p hp => h p (by simp [hp]))
        simp only [runs, lastOf, hq, this]
        simp
    have := hin l (fun p hp => h p (by simp [hp]))
    simp only [runs, lastOf, hp, this]
    rw [if_pos (by omega)]
    simp
theorem Mm.mem_pgIn (M : Mm) (t : Int) (i : Nat) : ∀ k p, p ∈ M.pgIn t i k ↔ ∃ j, j < k ∧ p = 16 * i + j ∧ (M.get t j).1 ≠ 0
  | 0, p => by simp [Mm.pgIn]
  | k + 1, p => by
    rw [Mm.pgIn, List.mem_append, Mm.mem_pgIn M t i k p]
    constructor
    · rintro (⟨j, h1, h2, h3⟩ | h)
      · exact ⟨j, by omega, h2, h3⟩
      · split at h
        · cases h
        · rename_i h3; exact ⟨k, by omega, by simpa using h, h3⟩
    · rintro ⟨j, h1, h2, h3⟩
      by_cases e : j = k
      · subst e; right; rw [if_neg h3]; simpa using h2
      · left; exact ⟨j, by omega, h2, h3⟩
theorem Mm.Tree.runs_to {M : Mm} {r : Nat} {T : Nat → Option Nat} {cu : Nat} (h : M.Tree r T cu) : ∀ i, i ≤ 16 → runs (-1) (M.pgTo r i) = tcnt T i ∧ lastOf (-1) (M.pgTo r i) < i
  | 0, _ => by simp [Mm.pgTo, runs, lastOf, tcnt]
  | i + 1, hi => by
    obtain ⟨h1, h2⟩ := h.runs_to i (by omega)
    have hu : M.isUsed r = true := Mm.isUsed_nat h.rn (by rw [h.rR]; decide)
    have hg : M.get r i = M.ent r i := by simp [Mm.get, hu]
    rw [Mm.pgTo, hg, runs_append, lastOf_append, h1, tcnt]
    cases hT : T i with
    | none =>
      rw [h.top0 i (by omega) hT]
      simp [runs, lastOf]
      omega
    | some k =>
      rw [h.top1 i k hT]
      obtain ⟨a1, a2, a3, a4⟩ := h.tb _ _ hT
      have huk : M.isUsed k = true := Mm.isUsed_nat a2 (by rw [a4]; decide)
      obtain ⟨j, hj, hj2⟩ := h.ne _ _ hT
      have hne : M.pgIn k i 16 ≠ [] := by
        intro e
        have : 16 * i + j ∈ M.pgIn k i 16 := (M.mem_pgIn k i 16 _).2 ⟨j, hj, rfl, by simpa [Mm.get, huk] using hj2⟩
        rw [e] at this; cases this
      have := runs_same i (M.pgIn k i 16) (lastOf (-1) (M.pgTo r i)) (fun p hp => by
        obtain ⟨j, h1, h2, _⟩ := (M.mem_pgIn k i 16 p).1 hp
        omega) (by omega)
      rw [if_neg hne, if_neg hne] at this
      rw [if_neg (by simp), this.1, this.2]
      simp
      omega
theorem Mm.Tree.runs {M : Mm} {r : Nat} {T : Nat → Option Nat} {cu : Nat} (h : M.Tree r T cu) : nfree M.R M.n + cu + Ytlbgnmcjdmdjpaa.runs (-1) (M.pages r) = M.n := by
  rw [← Mm.pages_eq, (h.runs_to 16 (Nat.le_refl _)).1]
  exact h.cnt
end Go.Proofs.Ytlbgnmcjdmdjpaa
namespace Go.Proofs.Ytlbgnmcjdmdjpaa
open Go.RowKit Go.Shelf
attribute [local go_sem] Oper.semAt_some

/-- As range_wide; the record is a loop's. -/
theorem range_wide2 {P : Program} {n : Nat} {g : Operand} {ps : Array Tmp} {assign body : Code} {Q : Exit → Act → World → Prop} {a : Act} {w : World} {gf : FuncId} {lb : Array Value}
    (hg : a.eval g = .func (.func gf) #[] lb) (eg : ∀ args w, (callFunc gf args).run P w = .ok (.enter gf args) w)
    (h : ∀ (rec : LoopState → Option Code → Obj) (D L : Nat) (W1 : World), w.heap.size ≤ D → D < L → RoundRule P n L a.tmps ps assign body rec →
        Same (fun _ => False) w W1 → W1.heap[L]? = some (rec .ready none) → W1.heap[D]? = some (.deferred (some [])) → (∀ st pe, ∃ r, rec st pe = .loop r) →
        Calls P gf (#[.func (.yield L) #[] #[]] ++ lb) W1 (rangeQ Fence.wide P n L rec Q { a with defers := { target := .collected D, args := #[] } :: a.defers })) :
    (Code.rangeFunc g ps assign body).wpIn Fence.wide n P Q a w := by
  refine wpIn_rangeFunc ?_
  intro fn _
  have H := h (lrec fn a.tmps ps assign body w.heap.size) w.heap.size (w.heap.size + 1) ((w.alloc (.deferred (some []))).alloc (lrec fn a.tmps ps assign body w.heap.size .ready none)) (Nat.le_refl _) (Nat.lt_succ_self _) round_rule
    ((same_alloc _).alloc _) (by have := World.alloc_heap_new (w.alloc (.deferred (some []))) (lrec fn a.tmps ps assign body w.heap.size .ready none); rwa [World.size_alloc] at this)
    ((Below.heap_alloc _ _ _ (by simp)).trans (World.alloc_heap_new w _)) (fun _ _ => ⟨_, rfl⟩)
  obtain ⟨W1, hW1⟩ : ∃ W1, (w.alloc (.deferred (some []))).alloc (lrec fn a.tmps ps assign body w.heap.size .ready none) = W1 := ⟨_, rfl⟩
  rw [hW1] at H
  refine ⟨w.heap.size + 1, [{ target := .collected w.heap.size, args := #[] }], W1, { target := .fn (.func gf) lb, args := #[.func (.yield (w.heap.size + 1)) #[] #[]] }, W1, gf,
    #[.func (.yield (w.heap.size + 1)) #[] #[]] ++ lb, W1, ?_, ?_, fun _ _ => trivial, ?_, fun h => by simp [Fence.wide] at h, ?_⟩
  · rw [← hW1]; exact run_enterLoop_outer _ _ _ _ _
  · simp only [resolve, hg]
    simp [go_sem]
  · simp [invoke, go_sem, eg]
  · refine CallsIn.mono (callsIn_wide.2 H) ?_
    rintro e W ⟨⟨v, rfl⟩, ⟨hl, hq⟩ | ⟨c, hl, hq⟩⟩
    · exact ⟨none, _, run_endLoop hl (by simp), hq _ (same_putObj _ hl) (by simp)⟩
    · exact ⟨some c, _, run_endLoop hl (by simp), hq _ (same_putObj _ hl) (by simp)⟩

def ints (l : List Nat) : List Value := l.map fun (p : Nat) => Value.int .i64 (p : Int)
theorem info3 : (Try.prog.info? 3).map (fun i => (i.zero, i.size, i.bytes)) = some (some (.int .i64 0), 1, 8) := by kernel_rfl

set_option maxHeartbeats 3200000 in
theorem pages_ok {w : World} {f fb : Nat} {M : Mm} (h : MemAt w f fb M) (root : Int) (hc : M.check root 0 = 0) :
    Calls Try.prog 22 #[.pointer (some ⟨f, 0, none⟩), .int .i64 root] w fun e w' => ∃ v, e = .returned (.tuple #[v, .int .i64 0]) ∧ w'.ownsRow w.heap.size 3 1 v (M.pgTo root 16).length (ints (M.pgTo root 16)) ∧ Same (fun _ => False) w w' := by
  have hlt := h.lt
  have H := Lib.hid h
  have hck := check_any (h.same0 (same_alloc (.cells #[.pointer (some ⟨f, 0, none⟩)] 24))) root 0
  rw [hc] at hck
  have HCK := Lib.hid hck
  clear h hck hc
  refine (callsIn_wide (n := 0)).1 ?_
  refine callsIn_of_wp_marks Try.func22 rfl trivial ?_ rfl
  simp only [Try.ntmps22, List.size_toArray, List.length_cons, List.length_nil, Nat.reduceAdd, Nat.reduceSub, Array.replicate_succ, Array.replicate_zero, List.push_toArray, List.append_toArray, List.nil_append, List.cons_append]
  gi_wp2_with fail
  refine CallsIn.mono (callsIn_wide.2 HCK.out) ?_
  rintro e w1 ⟨rfl, hs1⟩
  have b0 := hs1.cell (a := ⟨w.heap.size, 0, none⟩) (v := .pointer (some ⟨f, 0, none⟩)) (by simp) (by simp)
  have hw1 := World.block_lt_of_cell? _ _ b0
  simp only at hw1
  have hs01 : Same (fun _ => False) w w1 := (same_alloc _).trans hs1
  gi_wp2_with (gi_at_call 59; refine CallsIn.mono (callsIn_wide.2 (entries_any _ _ _)) ?_; rintro e w' ⟨rfl, rfl⟩)
  have hob : w1.heap.size < w1.heap.size + 1 := by omega
  refine range_wide2 (gf := 101) (lb := #[.pointer (some ⟨w1.heap.size + 1, 0, none⟩), .pointer (some ⟨w1.heap.size + 1 + 1, 0, none⟩)]) rfl (enters_of Try.func101 (by kernel_rfl) rfl) ?_
  intro rec D L W1 hD hL hrule hs2 hl1 hd1 hrec
  simp only [World.size_alloc, World.size_setCell] at hD
  have hb0 : W1.cell? ⟨w1.heap.size + 1, 0, none⟩ = some (.pointer (some ⟨f, 0, none⟩)) := hs2.cell (by simp [go_sem]) (by simp)
  have hb1 : W1.cell? ⟨w1.heap.size + 1 + 1, 0, none⟩ = some (.int .i64 root) := hs2.cell (by simp [go_sem]) (by simp)
  have hsA0 : Same (fun _ => False) w1 (((w1.alloc (.cells #[.slice none 0 0] 30)).alloc (.cells #[.pointer (some ⟨f, 0, none⟩)] 24)).alloc (.cells #[.int .i64 root] 3)) := ((same_alloc _).alloc _).alloc _
  have hb2 : W1.cell? ⟨w.heap.size, 0, none⟩ = some (.pointer (some ⟨f, 0, none⟩)) := hs2.cell (hsA0.cell b0 (by simp)) (by simp)
  have hb3 : W1.cell? ⟨w1.heap.size, 0, none⟩ = some (.slice none 0 0) := hs2.cell (by simp [go_sem]) (by simp)
  have hb4 : W1.frozen? ⟨w1.heap.size, 0, none⟩ = false := hs2.unfrozen (a := ⟨w1.heap.size, 0, none⟩) (v := .slice none 0 0) (by simp [go_sem]) (by simp [go_sem]) (by simp)
  have hs3 : Same (fun _ => False) w W1 := (hs01.trans hsA0).trans hs2
  have hM1 := H.out.same0 hs3
  clear hs1 hs2 b0
  have hLW1 := (Array.getElem?_eq_some_iff.1 hl1).1
  have hDW1 := (Array.getElem?_eq_some_iff.1 hd1).1
  have hwl : w.heap.size < W1.heap.size := by have := World.block_lt_of_cell? _ _ hb0; simp only at this; omega
  obtain ⟨i0, hi0, hz0, hz1', hz2⟩ := info_parts info3
  refine Calls.mono (entries1 L (w1.heap.size + 1) (w1.heap.size + 1 + 1) f fb root (fun i M' W => M' = M ∧ MemAt W f fb M ∧ W.cell? ⟨w1.heap.size + 1, 0, none⟩ = some (.pointer (some ⟨f, 0, none⟩)) ∧ W.cell? ⟨w1.heap.size + 1 + 1, 0, none⟩ = some (.int .i64 root) ∧ W.cell? ⟨w.heap.size, 0, none⟩ = some (.pointer (some ⟨f, 0, none⟩)) ∧
      (∃ v, W.cell? ⟨w1.heap.size, 0, none⟩ = some v ∧ W.frozen? ⟨w1.heap.size, 0, none⟩ = false ∧ W.ownsRow W1.heap.size 3 1 v (M.pgTo root i).length (ints (M.pgTo root i))) ∧
      Same (fun k => w.heap.size ≤ k) w W ∧ W.heap[L]? = some (rec .ready none) ∧ W.heap[D]? = some (.deferred (some [])) ∧ W1.heap.size ≤ W.heap.size)
    (fun W => False) ?_ ?_ ?_ ?_ W1 M ⟨rfl, hM1, hb0, hb1, hb2, ⟨_, hb3, hb4, World.ownsRow_nil _ _ _ _⟩, hs3.mono (fun _ _ h => h.elim), hl1, hd1, Nat.le_refl _⟩) ?_
  · rintro i M' W W' ⟨rfl, h1, h2, h3, h4, ⟨v, h8, h9, h10⟩, h5, h6, h7, h11⟩ hs
    exact ⟨rfl, h1.same0 hs, hs.cell h2 (by simp), hs.cell h3 (by simp), hs.cell h4 (by simp), ⟨v, hs.cell h8 (by simp), hs.unfrozen h8 h9 (by simp), ownsRow_same h10 hs (by simp)⟩, h5.trans (hs.mono (fun _ _ h => h.elim)), hs.block h6 (by simp), hs.block h7 (by simp), by have := hs.size; omega⟩
  · rintro i M' W ⟨rfl, h1, h2, h3, h4, h5, h6, h7⟩
    exact ⟨h1, h2, h3⟩
  · rintro i M' W hi ⟨rfl, h1, h2, h3, h4, h8, h5, h6, h7⟩ hz
    refine ⟨rfl, h1, h2, h3, h4, ?_, h5, h6, h7⟩
    rw [Mm.pgTo, if_pos hz, List.append_nil]
    exact h8
  · rintro i M' W hi ⟨rfl, h1, h2, h3, h4, ⟨v0, h8, h9, h10⟩, h5, h6, h7, h11⟩ hz
    have hst : M'.pgTo root (i + 1) = M'.pgTo root i ++ M'.pgIn (M'.get root i).2 i 16 := by rw [Mm.pgTo, if_neg hz]
    have hnn : (M'.pgTo root i).length ≤ 16 * i := M'.pgTo_len root i
    obtain ⟨⟨xf, xn⟩, hX⟩ : ∃ x, x = M'.get root i := ⟨_, rfl⟩
    rw [← hX] at hst ⊢
    simp only at hst ⊢
    have HST := Lib.hid hst
    clear hst hX hz
    refine hrule W _ _ h6 rfl ?_
    gi_wp2
    have hA : Same (fun _ => False) W ((W.alloc (.cells #[.int .i64 i] 3)).alloc (.cells #[.int .i64 xf, .int .i64 xn] 108)) := (same_alloc _).alloc _
    refine ⟨hA.block h6 (by simp), fun W2 hs2 hz2 hl2 => ?_⟩
    have hw2 := World.block_lt_of_cell? _ _ h4
    have hwL := (Array.getElem?_eq_some_iff.1 h6).1
    have hwD := (Array.getElem?_eq_some_iff.1 h7).1
    simp only at hw2
    have hsA : Same (fun k => k = L) W W2 := (hA.mono (fun _ _ h => h.elim)).trans (hs2.mono (fun k _ e => e))
    have d2 := hsA.cell h2 (by simp; omega)
    have d3 := hsA.cell h3 (by simp; omega)
    have d4 := hsA.cell h4 (by simp; omega)
    have d8 := hsA.cell h8 (by simp; omega)
    have d9 := hsA.unfrozen h8 h9 (by simp; omega)
    have d10 := ownsRow_same h10 hsA (fun g hg e => by have := (ownsRow_shape h10 hg).1; omega)
    have x0 : W2.cell? ⟨W.heap.size, 0, none⟩ = some (.int .i64 i) := hs2.cell (by simp [go_sem]) (by simp; omega)
    have x1 : W2.cell? ⟨W.heap.size + 1, 0, none⟩ = some (.int .i64 xf) := hs2.cell (by simp [go_sem]) (by simp; omega)
    have x2 : W2.cell? ⟨W.heap.size + 1, 1, none⟩ = some (.int .i64 xn) := hs2.cell (by simp [go_sem]) (by simp; omega)
    have dd := hsA.block h7 (by omega)
    have dl := hl2
    have hM3 := h1.same hsA (by omega) (by omega)
    have hs3 : Same (fun k => w.heap.size ≤ k) w W2 := h5.trans (hsA.mono (fun k _ e => by omega))
    have hWx : W.heap.size + 1 < W2.heap.size := World.block_lt_of_cell? _ _ x1
    have hW1W2 : W1.heap.size ≤ W2.heap.size := by omega
    have hi' : (i : Int) < 16 := by omega
    clear hz2 hsA hA hs2
    obtain ⟨r0, hr0⟩ := hrec .busy none
    have dl' := dl
    rw [hr0] at dl'
    have HR0 := Lib.hid hr0
    clear hr0
    gi_wp2_with fail
    refine CallsIn.mono (CallsIn.inRound L (callsIn_wide.2 (entries_any _ _ _))) ?_
    rintro e W4 ⟨rfl, rfl⟩
    gi_wp2
    have hsB : Same (fun _ => False) W2 ((W2.alloc (.cells #[.pointer (some ⟨f, 0, none⟩)] 24)).alloc (.cells #[.int .i64 xn] 3)) := (same_alloc _).alloc _
    refine range_inner (gf := 101) (lb := #[.pointer (some ⟨W2.heap.size, 0, none⟩), .pointer (some ⟨W2.heap.size + 1, 0, none⟩)]) (hsB.block dl' (by simp)) rfl (enters_of Try.func101 (by kernel_rfl) rfl) ?_
    intro rec2 L2 V1 hL2 hrule2 hv2 hl2' hrec2
    simp only [World.size_alloc] at hL2
    have hC : Same (fun _ => False) W2 V1 := hsB.trans hv2
    have e0 : V1.cell? ⟨W2.heap.size, 0, none⟩ = some (.pointer (some ⟨f, 0, none⟩)) := hv2.cell (by simp [go_sem]) (by simp)
    have e1 : V1.cell? ⟨W2.heap.size + 1, 0, none⟩ = some (.int .i64 xn) := hv2.cell (by simp [go_sem]) (by simp)
    have hl2V := (Array.getElem?_eq_some_iff.1 hl2').1
    refine Calls.mono (entries1 L2 W2.heap.size (W2.heap.size + 1) f fb xn (fun k M'' V => M'' = M' ∧ MemAt V f fb M' ∧ V.cell? ⟨W2.heap.size, 0, none⟩ = some (.pointer (some ⟨f, 0, none⟩)) ∧ V.cell? ⟨W2.heap.size + 1, 0, none⟩ = some (.int .i64 xn) ∧
        V.cell? ⟨W.heap.size, 0, none⟩ = some (.int .i64 i) ∧ V.cell? ⟨w1.heap.size + 1, 0, none⟩ = some (.pointer (some ⟨f, 0, none⟩)) ∧ V.cell? ⟨w1.heap.size + 1 + 1, 0, none⟩ = some (.int .i64 root) ∧ V.cell? ⟨w.heap.size, 0, none⟩ = some (.pointer (some ⟨f, 0, none⟩)) ∧
        (∃ v, V.cell? ⟨w1.heap.size, 0, none⟩ = some v ∧ V.frozen? ⟨w1.heap.size, 0, none⟩ = false ∧ V.ownsRow W1.heap.size 3 1 v (M'.pgTo root i ++ M'.pgIn xn i k).length (ints (M'.pgTo root i ++ M'.pgIn xn i k))) ∧
        Same (fun k => w.heap.size ≤ k) w V ∧ V.heap[L]? = some (rec .busy none) ∧ V.heap[D]? = some (.deferred (some [])) ∧ V.heap[L2]? = some (rec2 .ready none) ∧ V1.heap.size ≤ V.heap.size ∧
        (∀ v g, V.cell? ⟨w1.heap.size, 0, none⟩ = some v → v.ownBlock = some g → g < W.heap.size ∨ V1.heap.size ≤ g))
      (fun _ => False) ?_ ?_ ?_ ?_ V1 M' ⟨rfl, hM3.same0 hC, e0, e1, hC.cell x0 (by simp), hC.cell d2 (by simp), hC.cell d3 (by simp), hC.cell d4 (by simp), ⟨v0, hC.cell d8 (by simp), hC.unfrozen d8 d9 (by simp), by rw [Mm.pgIn, List.append_nil]; exact ownsRow_same d10 hC (by simp)⟩,
        hs3.trans (hC.mono (fun _ _ h => h.elim)), hC.block dl (by simp), hC.block dd (by simp), hl2', Nat.le_refl _, fun v g hv hg => ?_⟩) ?_
    · rintro k M'' V V' ⟨rfl, q1, q2, q3, q4, q5, q6, q7, ⟨v, q8, q9, q10⟩, q11, q12, q13, q14, q15, q16⟩ hs
      exact ⟨rfl, q1.same0 hs, hs.cell q2 (by simp), hs.cell q3 (by simp), hs.cell q4 (by simp), hs.cell q5 (by simp), hs.cell q6 (by simp), hs.cell q7 (by simp), ⟨v, hs.cell q8 (by simp), hs.unfrozen q8 q9 (by simp), ownsRow_same q10 hs (by simp)⟩, q11.trans (hs.mono (fun _ _ h => h.elim)), hs.block q12 (by simp), hs.block q13 (by simp), hs.block q14 (by simp), by have := hs.size; omega,
        fun v' g hv hg => by
          rw [hs.cell q8 (by simp)] at hv
          cases hv
          exact q16 v g q8 hg⟩
    · rintro k M'' V ⟨rfl, q1, q2, q3, q4⟩
      exact ⟨q1, q2, q3⟩
    · rintro k M'' V hk ⟨rfl, q1, q2, q3, q4, q5, q6, q7, q8, q9⟩ hz
      refine ⟨rfl, q1, q2, q3, q4, q5, q6, q7, ?_, q9⟩
      rw [Mm.pgIn, if_pos hz, List.append_nil]
      exact q8
    · rintro k M'' V hk ⟨rfl, q1, q2, q3, q4, q5, q6, q7, ⟨v, q8, q9, q10⟩, q11, q12, q13, q14, q15, q16⟩ hz
      have hpn := M''.pgIn_len xn i k
      have hst2 : M''.pgTo root i ++ M''.pgIn xn i (k + 1) = (M''.pgTo root i ++ M''.pgIn xn i k) ++ [16 * i + k] := by rw [Mm.pgIn, if_neg hz, List.append_assoc]
      have hq16 := q16 v
      have hlen : (M''.pgTo root i ++ M''.pgIn xn i k).length ≤ 272 := by rw [List.length_append]; omega
      generalize M''.pgTo root i ++ M''.pgIn xn i k = Lk at q10 hst2 hlen
      have HST2 := Lib.hid hst2
      have HRow := Lib.hid q10
      have hk' : (k : Int) < 16 := by omega
      clear hst2 hz
      refine hrule2 V _ _ q14 rfl ?_
      gi_wp2
      intro V5 hs5 hz5 hl5
      have hLV := (Array.getElem?_eq_some_iff.1 q12).1
      have hDV := (Array.getElem?_eq_some_iff.1 q13).1
      have p2 := hs5.cell q2 (by simp; omega)
      have p3 := hs5.cell q3 (by simp; omega)
      have p4 := hs5.cell q4 (by simp; omega)
      have p5 := hs5.cell q5 (by simp; omega)
      have p6 := hs5.cell q6 (by simp; omega)
      have p7 := hs5.cell q7 (by simp; omega)
      have p8 := hs5.cell q8 (by simp; omega)
      have p9 := hs5.unfrozen q8 q9 (by simp; omega)
      have p12 := hs5.block q12 (by omega)
      have p13 := hs5.block q13 (by omega)
      have pM := q1.same hs5 (by omega) (by omega)
      have pS : Same (fun k => w.heap.size ≤ k) w V5 := q11.trans (hs5.mono (fun k _ e => by omega))
      have pR := ownsRow_same HRow.out hs5 (fun g hg e => by have := (ownsRow_shape HRow.out hg).1; have := q16 v g q8 hg; omega)
      have PR := Lib.hid pR
      have Q16 := Lib.hid (q16 v)
      have hV5 := hs5.size
      clear pR q16 hq16 q2 q3 q4 q5 q6 q7 HRow hz5
      gi_wp2_with (gi_at_builtin; refine stop_intro ?_)
      unfold Stop
      refine wpListIn_append_same rfl _ _ 30 rfl W1.heap.size 3 i0 (.int .i64 0) 1 8 Try.underlying30 hi0 hz0 hz1' hz2 rfl (by decide) _ _ _ rfl (PR.out.alloc _) ⟨V5.heap.size, 0, none⟩ 1 1 [.int .i64 (16 * (i : Int) + (k : Int))] (by rfl) (by rfl) ?c1 ?c2 ?c3 ?c4 ?c5 ?_
      case c1 =>
        intro j u hu
        exact cells_new rfl hu
      case c2 => simp [Value.oneCell']
      case c3 => unfold maxLen; omega
      case c4 => omega
      case c5 => simp; omega
      intro v' V6 hown' hsame hfr
      obtain ⟨g', cap', rfl⟩ := own_row_succ hown'
      have hsA : Same (fun _ => False) V5 (V5.alloc (.cells #[.int .i64 (16 * (i : Int) + (k : Int))] 3)) := same_alloc _
      have hnb : ∀ b, (b < W1.heap.size ∨ W.heap.size ≤ b ∧ b < V1.heap.size) → ¬ v.ownBlock = some b := fun b hb h => by
        have h1 := (ownsRow_shape PR.out h).1
        have h2 := Q16.out b q8 h
        omega
      have y8 := hsame.cell (hsA.cell p8 (by simp)) (hnb _ (by simp only; omega))
      have y9 := hsame.unfrozen (hsA.cell p8 (by simp)) (hsA.unfrozen p8 p9 (by simp)) (hnb _ (by simp only; omega))
      have hg' : g' < W.heap.size ∨ V1.heap.size ≤ g' := by
        rcases hfr g' rfl with h | h
        · exact Q16.out g' q8 h
        · simp only [World.size_alloc] at h; omega
      have HO := Lib.hid hown'
      clear hown' q8
      gi_wp2
      have hsC : Same (fun b => v.ownBlock = some b) V5 V6 := (hsA.mono (fun _ _ h => h.elim)).trans hsame
      have hsD : Same (· = w1.heap.size) V6 (V6.setCell ⟨w1.heap.size, 0, none⟩ (.slice (some ⟨g', 0, none⟩) (Lk.length + 1) cap')) := (Same.refl _ _).setCell _ (.inr rfl)
      have hSD := (hsC.mono (T := fun b => v.ownBlock = some b ∨ b = w1.heap.size) (fun _ _ h => .inl h)).trans (hsD.mono (fun b _ h => .inr h))
      have hno : ∀ b, (b < W1.heap.size ∨ W.heap.size ≤ b ∧ b < V1.heap.size) → b ≠ w1.heap.size → ¬ (v.ownBlock = some b ∨ b = w1.heap.size) := fun b hb hb2 h => h.elim (hnb b hb) hb2
      have hV7 := hSD.size
      have hW1g : W1.heap.size ≤ g' := (ownsRow_shape HO.out rfl).1
      refine ⟨hSD.block hl5 (hno L2 (by omega) (by omega)), fun W8 hs8 _ hl8 => ⟨rfl, ?_, ?_, ?_, ?_, ?_, ?_, ?_, ?_, ?_, ?_, ?_, hl8, ?_, ?_⟩⟩
      · exact (pM.same hSD (hno f (by omega) (by omega)) (hno fb (by omega) (by omega))).same hs8 (by omega) (by omega)
      · exact hs8.cell (hSD.cell p2 (hno _ (by simp only; omega) (by simp only; omega))) (by simp; omega)
      · exact hs8.cell (hSD.cell p3 (hno _ (by simp only; omega) (by simp only; omega))) (by simp; omega)
      · exact hs8.cell (hSD.cell p4 (hno _ (by simp only; omega) (by simp only; omega))) (by simp; omega)
      · exact hs8.cell (hSD.cell p5 (hno _ (by simp only; omega) (by simp only; omega))) (by simp; omega)
      · exact hs8.cell (hSD.cell p6 (hno _ (by simp only; omega) (by simp only; omega))) (by simp; omega)
      · exact hs8.cell (hSD.cell p7 (hno _ (by simp only; omega) (by simp only; omega))) (by simp; omega)
      · have e1 : (M''.pgTo root i).length + (M''.pgIn xn i (k + 1)).length = Lk.length + 1 := by
          rw [← List.length_append, HST2.out]; simp
        have e2 : ints (M''.pgTo root i ++ M''.pgIn xn i (k + 1)) = ints Lk ++ [.int .i64 (16 * (i : Int) + (k : Int))] := by
          rw [HST2.out]; unfold ints; rw [List.map_append]; simp
        rw [e1, e2]
        exact ⟨_, hs8.cell (World.cell?_setCell_same _ _ _ y8) (by simp; omega), hs8.unfrozen (World.cell?_setCell_same _ _ _ y8) (by simpa using y9) (by simp; omega),
          ownsRow_same (ownsRow_same HO.out hsD (fun g hg e => by simp only [Value.ownBlock, Option.some.injEq] at hg; omega)) hs8 (fun g hg e => by simp only [Value.ownBlock, Option.some.injEq] at hg; omega)⟩
      · exact (pS.trans (hSD.mono (T := fun k => w.heap.size ≤ k) (fun b _ h => h.elim (fun h => by have := (ownsRow_shape PR.out h).1; omega) (fun h => by omega)))).trans (hs8.mono (fun b _ h => by omega))
      · exact hs8.block (hSD.block p12 (hno _ (by omega) (by omega))) (by omega)
      · exact hs8.block (hSD.block p13 (hno _ (by omega) (by omega))) (by omega)
      · have := hs8.size; omega
      · intro v2 g hv2' hg
        rw [hs8.cell (World.cell?_setCell_same _ _ _ y8) (by simp; omega)] at hv2'
        cases hv2'
        simp only [Value.ownBlock, Option.some.injEq] at hg
        omega
    · have hv0 := hC.cell d8 (by simp)
      rw [hv0] at hv
      cases hv
      exact .inl (ownsRow_shape h10 hg).2.1
    · rintro e V ⟨⟨v', rfl⟩, ⟨M'', rfl, q1, q2, q3, q4, q5, q6, q7, ⟨v, q8, q9, q10⟩, q11, q12, q13, q14, q15, q16⟩ | hf⟩
      · refine ⟨⟨_, rfl⟩, .inl ⟨q14, fun V5 hs5 _ => ?_⟩⟩
        have hLV := (Array.getElem?_eq_some_iff.1 q12).1
        have hDV := (Array.getElem?_eq_some_iff.1 q13).1
        have p5 := hs5.cell q5 (by simp; omega)
        have p6 := hs5.cell q6 (by simp; omega)
        have p7 := hs5.cell q7 (by simp; omega)
        have p8 := hs5.cell q8 (by simp; omega)
        have p9 := hs5.unfrozen q8 q9 (by simp; omega)
        have p12 := hs5.block q12 (by omega)
        have p13 := hs5.block q13 (by omega)
        have pM := q1.same hs5 (by omega) (by omega)
        have pS : Same (fun k => w.heap.size ≤ k) w V5 := q11.trans (hs5.mono (fun k _ e => by omega))
        have pR := ownsRow_same q10 hs5 (fun g hg e => by have := (ownsRow_shape q10 hg).1; have := q16 v g q8 hg; omega)
        have hV5 := hs5.size
        refine ⟨p12, fun W8 hs8 _ hl8 => ⟨rfl, pM.same hs8 (by omega) (by omega), hs8.cell p5 (by simp; omega), hs8.cell p6 (by simp; omega), hs8.cell p7 (by simp; omega), ?_, pS.trans (hs8.mono (fun b _ h => by omega)), hl8, hs8.block p13 (by omega), by have := hs8.size; omega⟩⟩
        rw [HST.out]
        exact ⟨v, hs8.cell p8 (by simp; omega), hs8.unfrozen p8 p9 (by simp; omega), ownsRow_same pR hs8 (fun g hg e => by have := (ownsRow_shape pR hg).1; omega)⟩
      · exact hf.elim
  · rintro e W ⟨⟨v', rfl⟩, ⟨M', rfl, h1, h2, h3, h4, ⟨v, h8, h9, h10⟩, h5, h6, h7, h11⟩ | hf⟩
    · refine ⟨⟨_, rfl⟩, .inl ⟨h6, fun W2 hs2 _ => ?_⟩⟩
      have c8 := hs2.cell h8 (by simp; omega)
      have hd2 := hs2.block h7 (by omega)
      have hR2 := ownsRow_same h10 hs2 (fun g hg e => by have := (ownsRow_shape h10 hg).1; omega)
      have hs3 := h5.trans (hs2.mono (T := fun k => w.heap.size ≤ k) (fun k _ e => by omega))
      have HR2 := Lib.hid hR2
      clear h10 hR2
      gi_wp2
      refine leaves_mark hd2 fun W5 hs6 _ => ⟨results_tmp2 rfl _ _ _, v, rfl, ?_, ?_⟩
      · exact ownsRow_base (ownsRow_same HR2.out hs6 (fun g hg e => by have := (ownsRow_shape HR2.out hg).1; omega)) (by omega)
      · exact (hs3.trans (hs6.mono (fun k _ e => by omega))).mono (fun k hk h => by omega)
    · exact hf.elim
end Go.Proofs.Ytlbgnmcjdmdjpaa
namespace Go.Proofs.Ytlbgnmcjdmdjpaa
open Go.RowKit Go.Shelf

/-- A row of acts: each four ints. -/
def ActsAt (w : World) (a : Option Addr) (len : Nat) : Prop :=
  ∀ x, a = some x → ∀ i, i < len → ∀ j, j < 4 → ∃ K : Int, w.cell? (x.add (i * 4 + j)) = some (.int .i64 K) ∧ (Lit.int .i64 K).wf = true
/-- One act's four cells, as a load spells them. -/
structure ActAt (w : World) (b : Addr) (d p q K : Int) : Prop where
  c0 : w.cell? b = some (.int .i64 d)
  c1 : w.cell? ⟨b.block, b.off + 1, none⟩ = some (.int .i64 p)
  c2 : w.cell? ⟨b.block, b.off + 2, none⟩ = some (.int .i64 q)
  c3 : w.cell? ⟨b.block, b.off + 3, none⟩ = some (.int .i64 K)
theorem add_add2 (a : Addr) (n k : Nat) : (a.add n).add k = a.add (n + k) := by
  unfold Addr.add
  by_cases h1 : n = 0 <;> by_cases h2 : k = 0 <;> simp [h1, h2, Nat.add_assoc]
theorem ActsAt.act {w : World} {a : Option Addr} {len : Nat} (h : ActsAt w a len) {x : Addr} (hx : a = some x) {i : Nat} (hi : i < len) : ∃ d p q K, ActAt w (x.add (i * 4)) d p q K ∧ In64 p := by
  obtain ⟨d, h0, _⟩ := h x hx i hi 0 (by decide)
  obtain ⟨p, h1, hp⟩ := h x hx i hi 1 (by decide)
  obtain ⟨q, h2, _⟩ := h x hx i hi 2 (by decide)
  obtain ⟨K, h3, _⟩ := h x hx i hi 3 (by decide)
  rw [← add_add2] at h1 h2 h3
  exact ⟨d, p, q, K, ⟨h0, h1, h2, h3⟩, in64 hp⟩
theorem ActAt.kept {w w' : World} {S : Nat → Prop} {b : Addr} {d p q K : Int} (h : ActAt w b d p q K) (hs : Same S w w') (hb : ¬ S b.block) : ActAt w' b d p q K :=
  ⟨hs.cell h.c0 hb, hs.cell h.c1 hb, hs.cell h.c2 hb, hs.cell h.c3 hb⟩
theorem ActAt.lt {w : World} {b : Addr} {d p q K : Int} (h : ActAt w b d p q K) : b.block < w.heap.size := World.block_lt_of_cell? _ _ h.c0

theorem Mm.map_tree {M : Mm} {r : Nat} {T : Nat → Option Nat} {cu : Nat} (h : M.Tree r T cu) (page frame flags : Int) : ∃ T', (M.map r page frame flags).1.Tree r T' cu ∧ (M.map r page frame flags).1.n = M.n := by
  rcases Mm.map_law h page frame flags with ⟨_, h2⟩ | ⟨_, p, _, _, _, _, ⟨T', h3, _⟩, h4, _⟩
  · rw [h2]; exact ⟨T, h, rfl⟩
  · exact ⟨T', h3, h4⟩
theorem Mm.unmap_tree {M : Mm} {r : Nat} {T : Nat → Option Nat} {cu : Nat} (h : M.Tree r T cu) (page : Int) : ∃ T', (M.unmap r page).1.Tree r T' cu ∧ (M.unmap r page).1.n = M.n := by
  rcases Mm.unmap_law h page with ⟨_, h2, _⟩ | ⟨_, p, _, _, _, _, ⟨T', h3, _⟩, h4, _⟩
  · rw [h2]; exact ⟨T, h, rfl⟩
  · exact ⟨T', h3, h4⟩
theorem Mm.map_walk_other {M : Mm} {r : Nat} {T : Nat → Option Nat} {cu : Nat} (h : M.Tree r T cu) (page frame flags other : Int) (hne : page ≠ other) : (M.map r page frame flags).1.walk r other = M.walk r other := by
  rcases Mm.map_law h page frame flags with ⟨_, h2⟩ | ⟨_, p, rfl, hp, _, _, ⟨T', h3, _⟩, h4, h5, h6⟩
  · rw [h2]
  · by_cases ho : 0 ≤ other ∧ other ≤ 255
    · obtain ⟨q, rfl⟩ := Int.eq_ofNat_of_zero_le ho.1
      rw [h.walk (p := q) (by omega), h3.walk (p := q) (by omega), h6 q (by omega) (by omega)]
    · rw [h.walk_out ho, h3.walk_out ho]
theorem Mm.unmap_walk_other {M : Mm} {r : Nat} {T : Nat → Option Nat} {cu : Nat} (h : M.Tree r T cu) (page other : Int) (hne : page ≠ other) : (M.unmap r page).1.walk r other = M.walk r other := by
  rcases Mm.unmap_law h page with ⟨_, h2, _⟩ | ⟨_, p, rfl, hp, _, _, ⟨T', h3, _⟩, h4, h5, h6⟩
  · rw [h2]
  · by_cases ho : 0 ≤ other ∧ other ≤ 255
    · obtain ⟨q, rfl⟩ := Int.eq_ofNat_of_zero_le ho.1
      rw [h.walk (p := q) (by omega), h3.walk (p := q) (by omega), h6 q (by omega) (by omega)]
    · rw [h.walk_out ho, h3.walk_out ho]
theorem Mm.map_walk_same {M : Mm} {r : Nat} {T : Nat → Option Nat} {cu : Nat} (h : M.Tree r T cu) (page frame flags : Int) : (M.map r page frame flags).2 ≠ 0 ∨ ((M.map r page frame flags).2 = 0 ∧ (M.map r page frame flags).1.walk r page = (frame, flags, 0)) := by
  rcases Mm.map_law h page frame flags with ⟨h1, _⟩ | ⟨h1, p, rfl, hp, hfl, _, ⟨T', h3, _⟩, h4, h5, h6⟩
  · exact .inl h1
  · right
    refine ⟨h1, ?_⟩
    rw [h3.walk hp, h5, if_neg hfl]
end Go.Proofs.Ytlbgnmcjdmdjpaa
namespace Go.Proofs.Ytlbgnmcjdmdjpaa
open Go.RowKit Go.Shelf
attribute [local go_sem] Oper.semAt_some

/-- The reference's memory lies at r: its bytes at rb, its counts at rr. -/
structure RefAt (w : World) (r rb rr : Nat) (M : Mm) : Prop where
  cb : ∃ cap, w.cell? ⟨r, 0, none⟩ = some (.slice (some ⟨rb, 0, none⟩) M.n cap)
  cr : ∃ cap, w.cell? ⟨r, 1, none⟩ = some (.slice (some ⟨rr, 0, none⟩) M.n cap)
  b : ∀ i, i < M.n → w.cell? ⟨rb, i, none⟩ = some (.string (M.str i 0 64))
  c : ∀ i, i < M.n → w.cell? ⟨rr, i, none⟩ = some (.int .i64 (M.R i))
  fb : ∀ o, w.frozen? ⟨rb, o, none⟩ = false
  fr : ∀ o, w.frozen? ⟨rr, o, none⟩ = false
  rR : ∀ i, i < M.n → 0 ≤ M.R i ∧ M.R i ≤ 1000
  n1 : 1 ≤ M.n
  n2 : M.n ≤ 256
  d1 : rb ≠ rr
  d2 : r ≠ rb
  d3 : r ≠ rr
theorem RefAt.lt {w : World} {r rb rr : Nat} {M : Mm} (h : RefAt w r rb rr M) : r < w.heap.size ∧ rb < w.heap.size ∧ rr < w.heap.size := by
  obtain ⟨cap, hc⟩ := h.cb
  exact ⟨World.block_lt_of_cell? _ _ hc, World.block_lt_of_cell? _ _ (h.b 0 h.n1), World.block_lt_of_cell? _ _ (h.c 0 h.n1)⟩
theorem RefAt.same {w w' : World} {r rb rr : Nat} {M : Mm} {S : Nat → Prop} (h : RefAt w r rb rr M) (hs : Same S w w') (h1 : ¬ S r) (h2 : ¬ S rb) (h3 : ¬ S rr) : RefAt w' r rb rr M := by
  obtain ⟨cap, hc⟩ := h.cb
  obtain ⟨cap', hc'⟩ := h.cr
  exact ⟨⟨cap, hs.cell hc h1⟩, ⟨cap', hs.cell hc' h1⟩, fun i hi => hs.cell (h.b i hi) h2, fun i hi => hs.cell (h.c i hi) h3, fun o => (hs.frozen (a := ⟨rb, o, none⟩) h.lt.2.1 h2).trans (h.fb o), fun o => (hs.frozen (a := ⟨rr, o, none⟩) h.lt.2.2 h3).trans (h.fr o),
    h.rR, h.n1, h.n2, h.d1, h.d2, h.d3⟩
theorem RefAt.same0 {w w' : World} {r rb rr : Nat} {M : Mm} (h : RefAt w r rb rr M) (hs : Same (fun _ => False) w w') : RefAt w' r rb rr M := h.same hs (fun h => h) (fun h => h) (fun h => h)

set_option maxHeartbeats 800000 in
theorem rused_any {w : World} {r rb rr : Nat} {M : Mm} (h : RefAt w r rb rr M) (a : Int) :
    Calls Try.prog 74 #[.pointer (some ⟨r, 0, none⟩), .int .i64 a] w fun e w' => e = .returned (.bool (M.isUsed a)) ∧ w = w' := by
  obtain ⟨cap, hcr⟩ := h.cr
  have hn2 := h.n2
  by_cases h0 : 0 ≤ a
  · obtain ⟨k, rfl⟩ := Int.eq_ofNat_of_zero_le h0
    by_cases hk : k < M.n
    · have hc := h.c k hk
      have hu : M.isUsed k = decide (0 < M.R k) := by simp [Mm.isUsed, hk]
      rw [hu]
      clear hu
      have hki : (k : Int) < M.n := by omega
      clear h
      go_enter Try.func74, Try.ntmps74
      go_wp2
      go_ret
      exact ⟨rfl, rfl⟩
    · have hu : M.isUsed k = false := by simp [Mm.isUsed]; omega
      rw [hu]
      clear hu
      have hki : decide ((k : Int) < M.n) = false := by simp; omega
      clear h
      go_enter Try.func74, Try.ntmps74
      go_wp2
      go_ret
      exact ⟨rfl, rfl⟩
  · have hu : M.isUsed a = false := by simp [Mm.isUsed]; omega
    rw [hu]
    clear hu h
    have h0' : decide (0 ≤ a) = false := by simp; omega
    go_enter Try.func74, Try.ntmps74
    go_wp2
    go_ret
    exact ⟨rfl, rfl⟩
set_option maxHeartbeats 800000 in
theorem rrefs_any {w : World} {r rb rr : Nat} {M : Mm} (h : RefAt w r rb rr M) (a : Int) :
    Calls Try.prog 105 #[.pointer (some ⟨r, 0, none⟩), .int .i64 a] w fun e w' => e = .returned (.int .i64 (M.refs a)) ∧ w = w' := by
  obtain ⟨cap, hcr⟩ := h.cr
  have hn2 := h.n2
  by_cases h0 : 0 ≤ a
  · obtain ⟨k, rfl⟩ := Int.eq_ofNat_of_zero_le h0
    by_cases hk : k < M.n
    · have hc := h.c k hk
      have hu : M.refs k = M.R k := by
        have := h.rR k hk
        unfold Mm.refs Mm.isUsed
        by_cases h1 : 0 < M.R k
        · rw [if_pos (by simp; omega)]; rfl
        · rw [if_neg (by simp; omega)]; omega
      rw [hu]
      clear hu
      have hki : decide ((M.n : Int) ≤ (k : Int)) = false := by simp; omega
      have hki2 : (k : Int) < M.n := by omega
      clear h
      go_enter Try.func105, Try.ntmps105
      go_wp2
      go_ret
      exact ⟨rfl, rfl⟩
    · have hu : M.refs k = 0 := by unfold Mm.refs Mm.isUsed; rw [if_neg (by simp; omega)]
      rw [hu]
      clear hu
      have hki : decide ((M.n : Int) ≤ (k : Int)) = true := by simp; omega
      clear h
      go_enter Try.func105, Try.ntmps105
      go_wp2
      go_ret
      exact ⟨rfl, rfl⟩
  · have hu : M.refs a = 0 := by unfold Mm.refs Mm.isUsed; rw [if_neg (by simp; omega)]
    rw [hu]
    clear hu h
    have h0' : decide (a < 0) = true := by simp; omega
    go_enter Try.func105, Try.ntmps105
    go_wp2
    go_ret
    exact ⟨rfl, rfl⟩
set_option maxHeartbeats 800000 in
theorem right_any {w : World} {r rb rr : Nat} {M : Mm} (h : RefAt w r rb rr M) (root page : Int) :
    Calls Try.prog 68 #[.pointer (some ⟨r, 0, none⟩), .int .i64 root, .int .i64 page] w fun e w' => e = .returned (.int .i64 (M.check root page)) ∧ w = w' := by
  have hz := M.refs_zero root
  cases hu : M.isUsed root with
  | false =>
    have hc : M.check root page = 10 := by simp [Mm.check, hu]
    have hr : (M.refs root == 0) = true := by rw [beq_iff_eq]; exact hz.2 hu
    rw [hc]
    clear hz hu hc
    go_enter Try.func68, Try.ntmps68
    go_wp2_with fail
    refine (rrefs_any h root).mono ?_
    rintro e w' ⟨rfl, rfl⟩
    go_wp2
    go_ret
    exact ⟨rfl, rfl⟩
  | true =>
    have hr : (M.refs root == 0) = false := by
      rw [beq_eq_false_iff_ne]; intro h0; have := hz.1 h0; rw [hu] at this; cases this
    have hc : M.check root page = if 0 ≤ page ∧ page ≤ 255 then 0 else 2 := by simp [Mm.check, hu]
    obtain ⟨R, hR⟩ : ∃ R, R = M.check root page := ⟨_, rfl⟩
    rw [← hR]
    have HC := Lib.hid (hR.trans hc)
    clear hz hu hc hR
    go_enter Try.func68, Try.ntmps68
    go_wp2_with fail
    refine (rrefs_any h root).mono ?_
    rintro e w' ⟨rfl, rfl⟩
    go_wp2
    all_goals
      go_ret
      refine ⟨?_, rfl⟩
      rw [HC.out]
      first | (rw [if_pos (by omega)]; done) | (rw [if_neg (by omega)]; done) | (rw [if_pos (by omega)]; rfl) | (rw [if_neg (by omega)]; rfl)
/-- A part of a text. -/
theorem Mm.str_ext (M : Mm) (k s l : Nat) (hl : s + l ≤ 64) : (M.str k 0 64).extract s (s + l) = M.str k s l := by
  apply ByteArray.ext
  unfold Mm.str Mm.bytes
  apply Array.ext'
  rw [ByteArray.data_extract, Array.toList_extract]
  simp only
  rw [List.extract_eq_take_drop]
  apply List.ext_getElem?
  intro i
  rw [List.getElem?_take, List.getElem?_drop, List.getElem?_map, List.getElem?_map]
  by_cases hi : i < l
  · rw [if_pos (by omega), List.getElem?_range (by omega), List.getElem?_range hi]
    simp
  · rw [if_neg (by omega), List.getElem?_eq_none (by simp; omega)]
    rfl
end Go.Proofs.Ytlbgnmcjdmdjpaa
namespace Go.Proofs.Ytlbgnmcjdmdjpaa
open Go.RowKit Go.Shelf
attribute [local go_sem] Oper.semAt_some

theorem strslice (A : ByteArray) (s e : Nat) (h : s ≤ e) (h2 : e ≤ A.size) (w : World) :
    (Instr.slice 9 (.string A) (some (.int .i64 (s : Int))) (some (.int .i64 (e : Int))) none).run Try.prog w = .ok (.string (A.extract s e)) w := by
  rw [run_slice_string_if w 9 A .i64 .i64 (s : Int) (e : Int) Try.underlying9, if_pos (by omega), if_pos (by omega)]
  simp
theorem Mm.str_size (M : Mm) (k s l : Nat) : (M.str k s l).size = l := by
  unfold Mm.str Mm.bytes
  simp [ByteArray.size]

set_option maxHeartbeats 800000 in
theorem rread_bad {w : World} {r rb rr : Nat} {M : Mm} (h : RefAt w r rb rr M) (a s l : Int) (hu : M.isUsed a = false) :
    Calls Try.prog 36 #[.pointer (some ⟨r, 0, none⟩), .int .i64 a, .int .i64 s, .int .i64 l] w fun e w' => e = .returned (.tuple #[.string ByteArray.empty, .int .i64 10]) ∧ w = w' := by
  have hr := rused_any h a
  rw [hu] at hr
  clear hu
  go_enter Try.func36, Try.ntmps36
  go_wp2_with fail
  refine hr.mono ?_
  rintro e w' ⟨rfl, rfl⟩
  go_wp2
  go_ret2
  exact ⟨rfl, rfl⟩
set_option maxHeartbeats 800000 in
set_option maxRecDepth 16384 in
theorem rread_ok {w : World} {r rb rr : Nat} {M : Mm} (h : RefAt w r rb rr M) (k s l : Nat) (hk : k < M.n) (hR : 0 < M.R k) (hl : s + l ≤ 64) :
    Calls Try.prog 36 #[.pointer (some ⟨r, 0, none⟩), .int .i64 k, .int .i64 s, .int .i64 l] w fun e w' => e = .returned (.tuple #[.string (M.str k s l), .int .i64 0]) ∧ w = w' := by
  have hr := rused_any h k
  rw [Mm.isUsed_nat hk hR] at hr
  obtain ⟨cap, hcb⟩ := h.cb
  have hc := h.b k hk
  have hn2 := h.n2
  have hki : (k : Int) < M.n := by omega
  have hx := M.str_ext k s l hl
  have hz := M.str_size k 0 64
  obtain ⟨A, hA⟩ : ∃ A, A = M.str k 0 64 := ⟨_, rfl⟩
  obtain ⟨B, hB⟩ : ∃ B, B = M.str k s l := ⟨_, rfl⟩
  rw [← hA] at hc hx hz
  rw [← hB] at hx ⊢
  clear hA hB
  have hsl : ∀ w : World, (Instr.slice 9 (.string A) (some (.int .i64 (s : Int))) (some (.int .i64 ((s : Int) + (l : Int)))) none).run Try.prog w = .ok (.string B) w := by
    intro w
    rw [show ((s : Int) + (l : Int)) = ((s + l : Nat) : Int) by omega, strslice A s (s + l) (by omega) (by omega), hx]
  clear hx
  have h1 : decide (64 < (s : Int)) = false := by simp; omega
  have h2 : decide (64 - (s : Int) < (l : Int)) = false := by simp; omega
  clear hR h
  go_enter Try.func36, Try.ntmps36
  go_wp2_with fail
  refine hr.mono ?_
  rintro e w' ⟨rfl, rfl⟩
  go_wp2
  go_ret2
  exact ⟨rfl, rfl⟩

set_option maxHeartbeats 800000 in
set_option maxRecDepth 16384 in
theorem rentry_any {w : World} {r rb rr : Nat} {M : Mm} (h : RefAt w r rb rr M) (t : Int) (i : Nat) (hi : i < 16) :
    Calls Try.prog 69 #[.pointer (some ⟨r, 0, none⟩), .int .i64 t, .int .i64 i] w fun e w' => e = .returned (.tuple #[.int .i64 (M.get t i).1, .int .i64 (M.get t i).2]) ∧ Same (fun _ => False) w w' := by
  cases hu : M.isUsed t with
  | false =>
    have hg : M.get t i = (0, 0) := by simp [Mm.get, hu]
    rw [hg]
    clear hg
    go_enter Try.func69, Try.ntmps69
    go_wp2_with fail
    refine (rread_bad h t _ _ hu).mono ?_
    rintro e w' ⟨rfl, rfl⟩
    go_wp2
    go_ret2
    exact ⟨rfl, Same.refl _ _⟩
  | true =>
    obtain ⟨k, rfl, hk, hR⟩ := Mm.used_iff hu
    have hr : M.get k i = (((M.B k (4 * i)).toNat : Int), ((M.B k (4 * i + 2)).toNat : Int) * 256 + ((M.B k (4 * i + 3)).toNat : Int)) := by simp [Mm.get, hu, Mm.ent]
    have hrd := rread_ok h k (4 * i) 4 hk hR (by omega)
    rw [Mm.str4] at hrd
    rw [show ((4 * i : Nat) : Int) = 4 * (i : Int) by omega] at hrd
    have b0 := (M.B k (4 * i)).toNat_lt
    have b2 := (M.B k (4 * i + 2)).toNat_lt
    have b3 := (M.B k (4 * i + 3)).toNat_lt
    rw [hr]
    generalize M.B k (4 * i) = x0 at *
    generalize M.B k (4 * i + 1) = x1 at *
    generalize M.B k (4 * i + 2) = x2 at *
    generalize M.B k (4 * i + 3) = x3 at *
    have hx : (256 : Int) * (x2.toNat : Int) + (x3.toNat : Int) = (x2.toNat : Int) * 256 + (x3.toNat : Int) := by omega
    have HX := Lib.hid hx
    have w0 := wrap64_id x0.toNat (by omega)
    have w2 := wrap64_id x2.toNat (by omega)
    have w3 := wrap64_id x3.toNat (by omega)
    have w4 : wrap64 (256 * (x2.toNat : Int)) = 256 * (x2.toNat : Int) := by unfold wrap64; omega
    have w5 : wrap64 (256 * (x2.toNat : Int) + (x3.toNat : Int)) = (x2.toNat : Int) * 256 + (x3.toNat : Int) := by unfold wrap64; omega
    have W0 := Lib.hid w0
    have W2 := Lib.hid w2
    have W3 := Lib.hid w3
    have W4 := Lib.hid w4
    have W5 := Lib.hid w5
    clear w0 w2 w3 w4 w5
    clear hr hx hu hR
    go_enter Try.func69, Try.ntmps69
    go_wp2_with fail
    refine hrd.mono ?_
    rintro e w' ⟨rfl, rfl⟩
    go_wp2_with fail
    go_quiet (fail)
    go_wp2
    simp only [bs0, bs2, bs3, W0.out, W2.out, W3.out, W4.out, W5.out]
    go_ret2
    exact ⟨rfl, (Same.refl _ _).drewN _⟩

theorem Mm.str_get (M : Mm) (k s l j : Nat) : (M.str k s l).data.toList[j]? = if j < l then some (M.B k (s + j)) else none := by
  unfold Mm.str Mm.bytes
  simp only [List.getElem?_map]
  by_cases h : j < l
  · rw [if_pos h, List.getElem?_range h]; rfl
  · rw [if_neg h, List.getElem?_eq_none (by simp; omega)]; rfl
theorem bytes_ext {a b : ByteArray} (h : ∀ j : Nat, a.data.toList[j]? = b.data.toList[j]?) : a = b := by
  apply ByteArray.ext
  apply Array.ext'
  exact List.ext_getElem? h
theorem Mm.str_len (M : Mm) (k s l : Nat) : (M.str k s l).data.toList.length = l := by
  unfold Mm.str Mm.bytes; simp
theorem splice_get (A s : ByteArray) (q n : Nat) (hl : A.data.toList.length = n) (hq : q + s.size ≤ n) (j : Nat) : ((A.extract 0 q ++ s) ++ A.extract (q + s.size) n).data.toList[j]? =
      if j < q then A.data.toList[j]? else if j - q < s.size then s.data.toList[j - q]? else (List.take (n - (q + s.size)) (List.drop (q + s.size) A.data.toList))[j - q - s.size]? := by
  have hs : s.data.toList.length = s.size := by rw [Array.length_toList]; rfl
  rw [ByteArray.data_append, Array.toList_append, ByteArray.data_append, Array.toList_append, ByteArray.data_extract, Array.toList_extract, ByteArray.data_extract, Array.toList_extract, List.extract_eq_take_drop, List.extract_eq_take_drop, List.drop_zero, Nat.sub_zero]
  rw [List.append_assoc, List.getElem?_append]
  rw [List.length_take, hl, show min q n = q by omega]
  by_cases h1 : j < q
  · rw [if_pos h1, if_pos h1, List.getElem?_take, if_pos h1]
  · rw [if_neg h1, if_neg h1, List.getElem?_append, hs]
theorem Mm.str_wr (M : Mm) (k q : Nat) (s : ByteArray) (hq : q + s.size ≤ 64) :
    (M.wr k q s).str k 0 64 = ((M.str k 0 64).extract 0 q ++ s) ++ (M.str k 0 64).extract (q + s.size) 64 := by
  apply bytes_ext
  intro j
  have hs : s.data.toList.length = s.size := by rw [Array.length_toList]; rfl
  have hl := M.str_len k 0 64
  have rhs := splice_get (M.str k 0 64) s q 64 hl hq j
  rw [rhs, Mm.str_get]
  by_cases h1 : j < q
  · rw [if_pos h1, Mm.str_get, if_pos (show j < 64 by omega), if_pos (show j < 64 by omega)]
    simp only [Mm.wr, Nat.zero_add]
    rw [if_neg (by omega)]
  · rw [if_neg h1]
    by_cases h2 : j - q < s.size
    · rw [if_pos h2, if_pos (show j < 64 by omega)]
      simp only [Mm.wr, Nat.zero_add]
      rw [if_pos ⟨trivial, by omega, by omega⟩, List.getElem?_eq_getElem (by omega)]
      rfl
    · rw [if_neg h2, List.getElem?_take, List.getElem?_drop, Mm.str_get]
      by_cases h3 : j < 64
      · rw [if_pos h3, if_pos (show j - q - s.size < 64 - (q + s.size) by omega), if_pos (show q + s.size + (j - q - s.size) < 64 by omega)]
        simp only [Mm.wr, Nat.zero_add]
        rw [if_neg (by omega), show q + s.size + (j - q - s.size) = j by omega]
      · rw [if_neg h3, if_neg (show ¬ j - q - s.size < 64 - (q + s.size) by omega)]
theorem Mm.str_wr_other (M : Mm) (k q i : Nat) (s : ByteArray) (hi : i ≠ k) (a l : Nat) : (M.wr k q s).str i a l = M.str i a l := by
  apply bytes_ext
  intro j
  rw [Mm.str_get, Mm.str_get]
  simp only [Mm.wr]
  by_cases h : j < l
  · rw [if_pos h, if_pos h, if_neg (by omega)]
  · rw [if_neg h, if_neg h]
theorem Mm.str_alloc (M : Mm) (k i : Nat) (a l : Nat) (hi : i ≠ k) : (M.alloc k).str i a l = M.str i a l := by
  apply bytes_ext
  intro j
  rw [Mm.str_get, Mm.str_get]
  simp only [Mm.alloc, if_neg hi]
theorem Mm.str_alloc_same (M : Mm) (k l : Nat) : (M.alloc k).str k 0 l = ⟨(List.replicate l (0 : UInt8)).toArray⟩ := by
  apply bytes_ext
  intro j
  rw [Mm.str_get]
  simp only [Mm.alloc, if_true, List.getElem?_replicate]
theorem Mm.str_zero (n k l : Nat) : (Mm.mk n (fun _ => 0) (fun _ _ => 0)).str k 0 l = ⟨(List.replicate l (0 : UInt8)).toArray⟩ := by
  apply bytes_ext
  intro j
  rw [Mm.str_get]
  simp only [List.getElem?_replicate]
theorem RefAt.wr {w : World} {r rb rr : Nat} {M : Mm} (h : RefAt w r rb rr M) {k q : Nat} (hk : k < M.n) (s : ByteArray) (hl : q + s.size ≤ 64) :
    RefAt (w.setCell ⟨rb, k, none⟩ (.string (((M.str k 0 64).extract 0 q ++ s) ++ (M.str k 0 64).extract (q + s.size) 64))) r rb rr (M.wr k q s) := by
  have hs : Same (· = rb) w (w.setCell ⟨rb, k, none⟩ (.string (((M.str k 0 64).extract 0 q ++ s) ++ (M.str k 0 64).extract (q + s.size) 64))) := (Same.refl _ _).setCell _ (.inr rfl)
  obtain ⟨cap, hc⟩ := h.cb
  obtain ⟨cap', hc'⟩ := h.cr
  refine ⟨⟨cap, hs.cell hc h.d2⟩, ⟨cap', hs.cell hc' h.d2⟩, fun i hi => ?_, fun i hi => hs.cell (h.c i hi) (Ne.symm h.d1), fun o => by simpa using h.fb o, fun o => by simpa using h.fr o, h.rR, h.n1, h.n2, h.d1, h.d2, h.d3⟩
  by_cases e : i = k
  · subst e
    rw [Mm.str_wr M i q s hl]
    exact World.cell?_setCell_same _ _ _ (h.b i hi)
  · rw [World.cell?_setCell_other _ _ _ _ (by simp [Ne.symm e]), Mm.str_wr_other M k q i s e]
    exact h.b i hi

set_option maxHeartbeats 800000 in
theorem rwrite_bad {w : World} {r rb rr : Nat} {M : Mm} (h : RefAt w r rb rr M) (a q : Int) (s : ByteArray) (hu : M.isUsed a = false) :
    Calls Try.prog 106 #[.pointer (some ⟨r, 0, none⟩), .int .i64 a, .int .i64 q, .string s] w fun e w' => e = .returned (.int .i64 10) ∧ w = w' := by
  have hr := rused_any h a
  rw [hu] at hr
  clear hu
  go_enter Try.func106, Try.ntmps106
  go_wp2_with fail
  refine hr.mono ?_
  rintro e w' ⟨rfl, rfl⟩
  go_wp2
  go_ret
  exact ⟨rfl, rfl⟩
set_option maxHeartbeats 1600000 in
set_option maxRecDepth 16384 in
theorem rwrite_ok {w : World} {r rb rr : Nat} {M : Mm} (h : RefAt w r rb rr M) (k q : Nat) (s : ByteArray) (hk : k < M.n) (hR : 0 < M.R k) (hl : q + s.size ≤ 64) :
    Calls Try.prog 106 #[.pointer (some ⟨r, 0, none⟩), .int .i64 k, .int .i64 q, .string s] w fun e w' => e = .returned (.int .i64 0) ∧ RefAt w' r rb rr (M.wr k q s) ∧ Same (· = rb) w w' := by
  have hr := rused_any h k
  rw [Mm.isUsed_nat hk hR] at hr
  obtain ⟨cap, hcb⟩ := h.cb
  have hc := h.b k hk
  have hn2 := h.n2
  have hki : (k : Int) < M.n := by omega
  have hz := M.str_size k 0 64
  have hfin := (h.same0 ((Same.refl _ w).drew)).wr hk s hl
  have hfz := h.fb k
  obtain ⟨A, hA⟩ : ∃ A, A = M.str k 0 64 := ⟨_, rfl⟩
  rw [← hA] at hc hz hfin
  have HFIN := Lib.hid hfin
  have h1 : decide (64 < (q : Int)) = false := by simp; omega
  have h2 : decide (64 - (q : Int) < (s.size : Int)) = false := by simp; omega
  have s1 : ∀ w : World, (Instr.slice 9 (.string A) none (some (.int .i64 (q : Int))) none).run Try.prog w = .ok (.string (A.extract 0 q)) w := by
    intro w; rw [run_slice_string_h w 9 A Try.underlying9 .i64 (q : Int) (by omega) (by omega)]; rfl
  have s2 : ∀ w : World, (Instr.slice 9 (.string A) (some (.int .i64 ((q : Int) + (s.size : Int)))) none none).run Try.prog w = .ok (.string (A.extract (q + s.size) 64)) w := by
    intro w; rw [show ((q : Int) + (s.size : Int)) = ((q + s.size : Nat) : Int) by omega, run_slice_string_l w 9 A Try.underlying9 .i64 ((q + s.size : Nat) : Int) (by omega) (by omega), hz]; rfl
  have z1 : (A.extract 0 q).size = q := by rw [ByteArray.size_extract]; omega
  have z2 : (A.extract (q + s.size) 64).size = 64 - (q + s.size) := by rw [ByteArray.size_extract]; omega
  have z3 : (A.extract 0 q ++ s).size = q + s.size := by rw [ByteArray.size_append, z1]
  have a1 : ∀ w : World, (Op.stringOp .add (A.extract 0 q) s).run Try.prog w = .ok (.string (A.extract 0 q ++ s)) w := fun w => run_string_add_sum w _ _ (by rw [z1]; omega)
  have a2 : ∀ w : World, (Op.stringOp .add (A.extract 0 q ++ s) (A.extract (q + s.size) 64)).run Try.prog w = .ok (.string (A.extract 0 q ++ s ++ A.extract (q + s.size) 64)) w := fun w => run_string_add_sum w _ _ (by rw [z3, z2]; omega)
  have hwr : IntKind.i64.wrap ((q : Int) + (s.size : Int)) = (q : Int) + (s.size : Int) := by rw [IntKind.wrap_i64]; omega
  clear hA hfin hR h z1 z2 z3
  go_enter Try.func106, Try.ntmps106
  go_wp2_with fail
  refine hr.mono ?_
  rintro e w' ⟨rfl, rfl⟩
  go_wp2_with fail
  go_still_tail 30, (by kernel_rfl)
  go_wp2
  go_ret
  exact ⟨rfl, HFIN.out, ((Same.refl _ _).drew).setCell _ (.inr rfl)⟩
end Go.Proofs.Ytlbgnmcjdmdjpaa
namespace Go.Proofs.Ytlbgnmcjdmdjpaa
open Go.RowKit Go.Shelf
attribute [local go_sem] Oper.semAt_some

set_option maxHeartbeats 1600000 in
set_option maxRecDepth 16384 in
theorem rset_any {w : World} {r rb rr : Nat} {M : Mm} (h : RefAt w r rb rr M) (t : Int) (i fl fr : Nat) (hi : i < 16) (hfl : fl < 256) (hfr : fr < 65536) :
    Calls Try.prog 70 #[.pointer (some ⟨r, 0, none⟩), .int .i64 t, .int .i64 i, .int .i64 fl, .int .i64 fr] w fun e w' => e = .returned (.tuple #[]) ∧ RefAt w' r rb rr (M.put t i fl fr) ∧ Same (· = rb) w w' := by
  have hcv := run_convert_bytes_back (P := Try.prog) (w.alloc (.cells #[.int .u8 fl, .int .u8 0, .int .u8 ((fr : Int) / 256), .int .u8 ((fr : Int) % 256)] 5)) 66 9 5 ⟨w.heap.size, 0, none⟩ 4
    [UInt8.ofNat fl, 0, UInt8.ofNat (fr / 256), UInt8.ofNat fr] Try.underlying66 Try.underlying5 Try.underlying9 (by
      intro j hj
      have e0 : ((UInt8.ofNat fl).toNat : Int) = fl := by simp; omega
      have e2 : ((UInt8.ofNat (fr / 256)).toNat : Int) = (fr : Int) / 256 := by simp; omega
      have e3 : ((UInt8.ofNat fr).toNat : Int) = (fr : Int) % 256 := by simp
      match j, hj with
      | 0, _ => simp only [List.getElem_cons_zero, e0]; simp [Addr.add]
      | 1, _ => simp [Addr.add]
      | 2, _ => simp only [List.getElem_cons_succ, List.getElem_cons_zero, e2]; simp [Addr.add]
      | 3, _ => simp only [List.getElem_cons_succ, List.getElem_cons_zero, e3]; simp [Addr.add])
  have hs1 : Same (fun _ => False) w (w.alloc (.cells #[.int .u8 fl, .int .u8 0, .int .u8 ((fr : Int) / 256), .int .u8 ((fr : Int) % 256)] 5)) := same_alloc _
  simp only [List.length_cons, List.length_nil, Nat.zero_add, Nat.reduceAdd] at hcv
  have hM1 := h.same0 hs1
  have hii : ((4 * i : Nat) : Int) = 4 * (i : Int) := by omega
  cases hu : M.isUsed t with
  | false =>
    have hwr := rwrite_bad hM1 t ((4 * i : Nat) : Int) ⟨#[UInt8.ofNat fl, 0, UInt8.ofNat (fr / 256), UInt8.ofNat fr]⟩ hu
    rw [hii] at hwr
    go_enter Try.func70, Try.ntmps70
    go_wp2_with fail
    refine (hwr).mono ?_
    rintro e w' ⟨rfl, rfl⟩
    go_wp2
    go_end0
    exact ⟨rfl, by simp only [Mm.put, hu]; exact hM1, hs1.mono (fun _ _ h => h.elim)⟩
  | true =>
    obtain ⟨k, rfl, hk, hR⟩ := Mm.used_iff hu
    have hwr := rwrite_ok hM1 k (4 * i) ⟨#[UInt8.ofNat fl, 0, UInt8.ofNat (fr / 256), UInt8.ofNat fr]⟩ hk hR (by simp [ByteArray.size]; omega)
    rw [hii] at hwr
    go_enter Try.func70, Try.ntmps70
    go_wp2_with fail
    refine (hwr).mono ?_
    rintro e w' ⟨rfl, hM, hs⟩
    go_wp2
    go_end0
    exact ⟨rfl, by simp only [Mm.put, hu, if_true, Int.toNat_natCast]; exact hM, (hs1.mono (fun _ _ h => h.elim)).trans hs⟩

def z64c : Array Value := madeCells #[.int .u8 0] 64
def z64 : ByteArray := ⟨(List.replicate 64 (0 : UInt8)).toArray⟩
theorem info5 : (Try.prog.info? 5).map (fun i => (i.zero, i.size, i.bytes)) = some (some (.int .u8 0), 1, 1) := by kernel_rfl
theorem make64 (w : World) : (Instr.makeSlice 66 (.int .i64 64) (.int .i64 64)).run Try.prog w = .ok (.slice (some ⟨w.heap.size, 0, none⟩) 64 64) (w.alloc (.cells z64c 5)) := by
  obtain ⟨i, hi, h1, h2, h3⟩ := info_parts info5
  have := run_make (P := Try.prog) w 66 5 i _ Try.underlying66 hi h1 .i64 .i64 64 64 (by omega) (by omega) (by rw [h3]; omega) (by omega)
  rw [h2] at this
  exact this
theorem z64c_get (j : Nat) (hj : j < 64) : z64c[j]? = some (.int .u8 0) := by
  unfold z64c madeCells
  rw [Array.getElem?_map, Array.getElem?_range, if_pos hj]
  simp [Nat.mod_one]
theorem conv64 (w : World) (b : Nat) (h : ∀ j, j < 64 → w.cell? ⟨b, j, none⟩ = some (.int .u8 0)) : (convert 66 9 (.slice (some ⟨b, 0, none⟩) 64 64)).run Try.prog w = .ok (.string z64) w := by
  have := run_convert_bytes_back (P := Try.prog) w 66 9 5 ⟨b, 0, none⟩ 64 (List.replicate 64 (0 : UInt8)) Try.underlying66 Try.underlying5 Try.underlying9 (by
    intro j hj
    rw [List.length_replicate] at hj
    have e : (⟨b, 0, none⟩ : Addr).add j = ⟨b, j, none⟩ := by unfold Addr.add; by_cases h : j = 0 <;> simp [h]
    rw [e, h j hj, List.getElem_replicate]
    rfl)
  rw [List.length_replicate] at this
  exact this
theorem z64c_cell (w : World) (j : Nat) (hj : j < 64) : (w.alloc (.cells z64c 5)).cell? ⟨w.heap.size, j, none⟩ = some (.int .u8 0) := by
  rw [World.cell?_alloc_new]; exact z64c_get j hj

theorem RefAt.alloc {w w2 : World} {r rb rr : Nat} {M : Mm} (h : RefAt w r rb rr M) {k : Nat} (hk : k < M.n) (h12 : Same (fun _ => False) (w.setCell ⟨rr, k, none⟩ (.int .i64 1)) w2) :
    RefAt (w2.setCell ⟨rb, k, none⟩ (.string z64)) r rb rr (M.alloc k) := by
  have hs1 : Same (· = rr) w w2 := ((Same.refl (· = rr) w).setCell _ (.inr rfl)).trans (h12.mono (fun _ _ h => h.elim))
  have hs2 : Same (· = rb) w2 (w2.setCell ⟨rb, k, none⟩ (.string z64)) := (Same.refl _ _).setCell _ (.inr rfl)
  have hlt := h.lt
  have hz2 := hs1.size
  obtain ⟨cap, hc⟩ := h.cb
  obtain ⟨cap', hc'⟩ := h.cr
  have hfr : ∀ o, w2.frozen? ⟨rr, o, none⟩ = false := fun o => by
    rw [h12.frozen (a := ⟨rr, o, none⟩) (by simpa using hlt.2.2) (fun h => h)]
    simpa using h.fr o
  refine ⟨⟨cap, hs2.cell (hs1.cell hc h.d3) h.d2⟩, ⟨cap', hs2.cell (hs1.cell hc' h.d3) h.d2⟩, fun i hi => ?_, fun i hi => ?_,
    fun o => by simpa using (hs1.frozen (a := ⟨rb, o, none⟩) hlt.2.1 h.d1).trans (h.fb o), fun o => by simpa using hfr o, fun i hi => ?_, h.n1, h.n2, h.d1, h.d2, h.d3⟩
  · by_cases e : i = k
    · subst e
      rw [Mm.str_alloc_same]
      exact World.cell?_setCell_same _ _ _ (hs1.cell (h.b i hi) h.d1)
    · rw [World.cell?_setCell_other _ _ _ _ (by simp [Ne.symm e]), Mm.str_alloc M k i 0 64 e]
      exact hs1.cell (h.b i hi) h.d1
  · refine hs2.cell (h12.cell ?_ (fun h => h)) (Ne.symm h.d1)
    by_cases e : i = k
    · subst e
      simp only [Mm.alloc, if_true]
      exact World.cell?_setCell_same _ _ _ (h.c i hi)
    · rw [World.cell?_setCell_other _ _ _ _ (by simp [Ne.symm e])]
      simp only [Mm.alloc, if_neg e]
      exact h.c i hi
  · have := h.rR i hi
    simp only [Mm.alloc]
    split <;> omega

set_option maxHeartbeats 1600000 in
set_option maxRecDepth 16384 in
theorem ralloc_any {w : World} {r rb rr : Nat} {M : Mm} (h : RefAt w r rb rr M) :
    Calls Try.prog 67 #[.pointer (some ⟨r, 0, none⟩)] w fun e w' =>
      ((∀ i, i < M.n → 0 < M.R i) ∧ e = .returned (.tuple #[.int .i64 0, .int .i64 11]) ∧ RefAt w' r rb rr M ∧ Same (fun _ => False) w w') ∨
      (∃ k, k < M.n ∧ M.R k ≤ 0 ∧ (∀ i, i < k → 0 < M.R i) ∧ e = .returned (.tuple #[.int .i64 k, .int .i64 0]) ∧ RefAt w' r rb rr (M.alloc k) ∧ Same (fun b => b = rb ∨ b = rr) w w') := by
  obtain ⟨cb, hcb⟩ := h.cb
  obtain ⟨cr, hcr⟩ := h.cr
  have hn2 := h.n2
  have hd1 := h.d1
  have hd2 := h.d2
  have hd3 := h.d3
  have H := Lib.hid h
  clear h
  go_enter Try.func67, Try.ntmps67
  go_wp2
  go_loop [4] (fun v4 => ∃ i : Nat, i ≤ M.n ∧ v4 = .int .i64 i ∧ ∀ j, j < i → 0 < M.R j) (fun v4 => M.n - (intOf v4).toNat)
  case atStart => exact ⟨0, by omega, rfl, by omega⟩
  case round =>
    obtain ⟨i, hi, rfl, hbel⟩ := hrel
    have HBEL := Lib.hid hbel
    clear hbel
    by_cases hlt : i < M.n
    · have hc := H.out.c i hlt
      have hb := H.out.b i hlt
      have hli : (i : Int) < M.n := by omega
      have hr0 := (H.out.rR i hlt).1
      by_cases hz : M.R i = 0
      · have hzb : (M.R i == 0) = true := by simpa using hz
        have HZ := Lib.hid hz
        have hf1 := H.out.fb i
        have hf2 := H.out.fr i
        have hcell := hcb
        obtain ⟨w1, hw1⟩ : ∃ w1, w1 = w.setCell ⟨rr, i, none⟩ (.int .i64 1) := ⟨_, rfl⟩
        have hs1 : Same (· = rr) w w1 := by rw [hw1]; exact (Same.refl _ _).setCell _ (.inr rfl)
        have k1 := hs1.cell hcb hd3
        have k2 := hs1.cell hb hd1
        have k3 := hs1.unfrozen hb hf1 hd1
        have mk := make64 w1
        have mkd := make64 w1.drew
        have cv := conv64 (w1.alloc (.cells z64c 5)) w1.heap.size (fun j hj => z64c_cell w1 j hj)
        have cvd := conv64 (w1.alloc (.cells z64c 5)).drew w1.heap.size (fun j hj => z64c_cell w1 j hj)
        clear hz
        go_wp2_with fail
        rw [← hw1]
        have HW1 := Lib.hid hw1
        clear hw1 hcb hcr hc hb hs1 hf1 hf2 hcell
        have hsz := same_alloc (W := w1) (.cells z64c 5)
        have m1 := hsz.cell k1 (fun h => h)
        have m2 := hsz.cell k2 (fun h => h)
        have m3 := hsz.unfrozen k2 k3 (fun h => h)
        clear hsz
        go_region
        all_goals go_wp2
        all_goals
          go_ret2
          have hw1 := HW1.out
          subst hw1
          refine .inr ⟨i, hlt, by rw [HZ.out]; exact Int.le_refl _, HBEL.out, rfl, (H.out.alloc hlt (same_alloc _)).same0 ((Same.refl _ _).drew), ?_⟩
          exact ((((Same.refl _ _).setCell _ (.inr (.inr rfl))).alloc _).setCell _ (.inr (.inl rfl))).drew
      · have hzb : (M.R i == 0) = false := by simpa using hz
        have HZ := Lib.hid hz
        clear hz
        go_wp2
        go_round
        case rel =>
          refine ⟨i + 1, by omega, by go_num, fun j hj => ?_⟩
          by_cases e : j = i
          · subst e; have := HZ.out; omega
          · exact HBEL.out j (by omega)
        case measure => simp [intOf]; omega
    · obtain rfl : i = M.n := by omega
      go_wp2
      go_ret2
      exact .inl ⟨HBEL.out, rfl, H.out, Same.refl _ _⟩
end Go.Proofs.Ytlbgnmcjdmdjpaa
namespace Go.Proofs.Ytlbgnmcjdmdjpaa
open Go.RowKit Go.Shelf
attribute [local go_sem] Oper.semAt_some
theorem info9 : (Try.prog.info? 9).map (fun i => (i.zero, i.size, i.bytes)) = some (some (.string ByteArray.empty), 1, 16) := by kernel_rfl

theorem rnew_bad (w : World) (n : Int) (hn : n < 1 ∨ 256 < n) : Calls Try.prog 28 #[.int .i64 n] w fun e w' => e = .returned (.tuple #[.pointer none, .int .i64 2]) ∧ w = w' := by
  have hb : (decide (n < 1) || decide (256 < n)) = true := by simpa using hn
  clear hn
  go_enter Try.func28, Try.ntmps28
  go_wp2
  all_goals
    go_ret2
    exact ⟨rfl, rfl⟩

set_option maxHeartbeats 3200000 in
set_option maxRecDepth 16384 in
theorem rnew_any (w : World) (n : Nat) (h1 : 1 ≤ n) (h2 : n ≤ 256) : Calls Try.prog 28 #[.int .i64 n] w fun e w' => ∃ r rb rr, e = .returned (.tuple #[.pointer (some ⟨r, 0, none⟩), .int .i64 0]) ∧
    w.heap.size ≤ r ∧ w.heap.size ≤ rb ∧ w.heap.size ≤ rr ∧ RefAt w' r rb rr ⟨n, fun _ => 0, fun _ _ => 0⟩ ∧ Same (fun _ => False) w w' := by
  have hb : (decide ((n : Int) < 1) || decide (256 < (n : Int))) = false := by simp; omega
  obtain ⟨w0, hw0⟩ : ∃ w0, w0 = w.alloc (.cells #[.slice none 0 0, .slice none 0 0] 122) := ⟨_, rfl⟩
  have mk := make64 w0
  have cv := conv64 (w0.alloc (.cells z64c 5)) w0.heap.size (fun j hj => z64c_cell w0 j hj)
  have HW0 := Lib.hid hw0
  refine (callsIn_wide (n := 0)).1 ?_
  refine callsIn_of_wp Try.func28 rfl trivial ?_ rfl
  simp only [Try.ntmps28, List.size_toArray, List.length_cons, List.length_nil, Nat.reduceAdd, Nat.reduceSub, Array.replicate_succ, Array.replicate_zero, List.push_toArray, List.append_toArray, List.nil_append, List.cons_append]
  gi_upto_region 4 with (fail)
  rw [← hw0]
  clear hw0
  gi_wp2
  have hr : w0.heap.size = w.heap.size + 1 := by rw [HW0.out]; simp
  have q0 : (w0.alloc (.cells z64c 5)).cell? ⟨w.heap.size, 0, none⟩ = some (.slice none 0 0) := (same_alloc _).cell (by rw [HW0.out]; simp) (fun h => h)
  have q1 : (w0.alloc (.cells z64c 5)).cell? ⟨w.heap.size, 1, none⟩ = some (.slice none 0 0) := (same_alloc _).cell (by rw [HW0.out]; simp) (fun h => h)
  have q2 : (w0.alloc (.cells z64c 5)).frozen? ⟨w.heap.size, 0, none⟩ = false := (same_alloc _).unfrozen (v := .slice none 0 0) (by rw [HW0.out]; simp) (by rw [HW0.out]; simp) (fun h => h)
  have q3 : (w0.alloc (.cells z64c 5)).frozen? ⟨w.heap.size, 1, none⟩ = false := (same_alloc _).unfrozen (v := .slice none 0 0) (by rw [HW0.out]; simp) (by rw [HW0.out]; simp) (fun h => h)
  have q4 : (w0.alloc (.cells z64c 5)).shape? w.heap.size = some (122, 2) := ((same_alloc _).shp _ (by omega)).trans (by rw [HW0.out, shape_alloc, if_pos rfl]; rfl)
  have qs : Same (fun _ => False) w (w0.alloc (.cells z64c 5)) := by rw [HW0.out]; exact (same_alloc _).alloc _
  have HQ := Lib.hid (And.intro q0 (And.intro q1 (And.intro q2 (And.intro q3 (And.intro q4 qs)))))
  have HR := Lib.hid hr
  clear q0 q1 q2 q3 q4 qs mk cv hb hr
  obtain ⟨r, hr⟩ : ∃ r, r = w.heap.size := ⟨_, rfl⟩
  obtain ⟨is, his, hzs, hzs1, hzs2⟩ := info_parts info9
  obtain ⟨i3, hi3, hz3, hz31, hz32⟩ := info_parts info3
  have HIR := Lib.hid hr
  gi_loopw [6] (fun v6 wr => ∃ i : Nat, i ≤ n ∧ v6 = .int .i64 i ∧ ∃ vb vr, wr.cell? ⟨w.heap.size, 0, none⟩ = some vb ∧ wr.cell? ⟨w.heap.size, 1, none⟩ = some vr ∧ wr.frozen? ⟨w.heap.size, 0, none⟩ = false ∧ wr.frozen? ⟨w.heap.size, 1, none⟩ = false ∧
      wr.shape? w.heap.size = some (122, 2) ∧ wr.ownsRow w.heap.size 9 1 vb i (List.replicate i (.string z64)) ∧ wr.ownsRow w.heap.size 3 1 vr i (List.replicate i (.int .i64 0)) ∧ Same (fun _ => False) w wr ∧ w.heap.size < wr.heap.size) (fun v6 _ => n - (intOf v6).toNat)
  case atStart =>
    obtain ⟨a0, a1, a2, a3, a4, a5⟩ := HQ.out
    exact ⟨0, by omega, rfl, _, _, a0, a1, a2, a3, a4, World.ownsRow_nil _ _ _ _, World.ownsRow_nil _ _ _ _, a5, World.block_lt_of_cell? _ _ a0⟩
  case round =>
    obtain ⟨i, hi, rfl, vb, vr, a0, a1, a2, a3, a4, hB, hC, hs, hsz⟩ := hrel
    have HB := Lib.hid hB
    have HC := Lib.hid hC
    have hs' := hs.size
    clear hB hC hr
    by_cases hlt : i < n
    · have hli : (i : Int) < n := by omega
      gi_wp2_with (gi_at_builtin; refine stop_intro ?_)
      unfold Stop
      refine wpListIn_append_same rfl _ _ 120 rfl w.heap.size 9 is (.string ByteArray.empty) 1 16 Try.underlying120 his hzs hzs1 hzs2 rfl (by decide) _ _ _ rfl (HB.out.alloc _) ⟨wr.heap.size, 0, none⟩ 1 1 [.string z64] (by rfl) (by rfl) ?c1 ?c2 ?c3 ?c4 ?c5 ?_
      case c1 =>
        intro j u hu
        exact cells_new rfl hu
      case c2 => simp [Value.oneCell']
      case c3 => unfold maxLen; omega
      case c4 => omega
      case c5 => simp; omega
      intro vb' w5 hown' hsame _
      obtain ⟨g', cap', rfl⟩ := own_row_succ hown'
      have hsA : Same (fun _ => False) wr (wr.alloc (.cells #[.string z64] 9)) := same_alloc _
      have hnb : ¬ vb.ownBlock = some w.heap.size := fun h => by
        obtain ⟨_, _, k, hk⟩ := ownsRow_shape HB.out h
        rw [a4] at hk; cases hk
      have hnr : ∀ g, vr.ownBlock = some g → ¬ vb.ownBlock = some g := fun g h h' => by
        obtain ⟨_, _, k, hk⟩ := ownsRow_shape HB.out h'
        obtain ⟨_, _, k', hk'⟩ := ownsRow_shape HC.out h
        rw [hk] at hk'; cases hk'
      have hsB : Same (fun b => vb.ownBlock = some b) wr w5 := (hsA.mono (fun _ _ h => h.elim)).trans hsame
      have b0 := hsB.cell a0 hnb
      have b1 := hsB.cell a1 hnb
      have b2 := hsB.unfrozen a0 a2 hnb
      have b3 := hsB.unfrozen a1 a3 hnb
      have b4 := (hsB.shp _ hsz).trans a4
      have HO := Lib.hid hown'
      have HC5 := Lib.hid (ownsRow_same HC.out hsB hnr)
      have hs5 : Same (fun k => w.heap.size ≤ k) w w5 := (hs.mono (fun _ _ h => h.elim)).trans (hsB.mono (fun b _ h => (ownsRow_shape HB.out h).1))
      have hz5 := hsB.size
      clear hown' hsame a0 a1 a2 a3 a4 hsB hsA
      gi_wp2_with (gi_at_builtin; refine stop_intro ?_)
      unfold Stop
      obtain ⟨w6, hw6⟩ : ∃ w6, w6 = w5.setCell ⟨w.heap.size, 0, none⟩ (.slice (some ⟨g', 0, none⟩) (i + 1) cap') := ⟨_, rfl⟩
      have hs6 : Same (· = w.heap.size) w5 w6 := by rw [hw6]; exact (Same.refl _ _).setCell _ (.inr rfl)
      have c0 : w6.cell? ⟨w.heap.size, 0, none⟩ = some (.slice (some ⟨g', 0, none⟩) (i + 1) cap') := by rw [hw6]; exact World.cell?_setCell_same _ _ _ b0
      have c1 : w6.cell? ⟨w.heap.size, 1, none⟩ = some vr := by rw [hw6, World.cell?_setCell_other _ _ _ _ (by simp)]; exact b1
      have c2 : w6.frozen? ⟨w.heap.size, 0, none⟩ = false := by rw [hw6]; simpa using b2
      have c3 : w6.frozen? ⟨w.heap.size, 1, none⟩ = false := by rw [hw6]; simpa using b3
      have c4 := (hs6.shp _ (by omega)).trans b4
      have HO6 := Lib.hid (ownsRow_same HO.out hs6 (fun g hg e => by
        subst e
        obtain ⟨_, _, k, hk⟩ := ownsRow_shape HO.out hg
        rw [b4] at hk; cases hk))
      have HC6 := Lib.hid (ownsRow_same HC5.out hs6 (fun g hg e => by
        subst e
        obtain ⟨_, _, k, hk⟩ := ownsRow_shape HC5.out hg
        rw [b4] at hk; cases hk))
      have hz6 := hs6.size
      have hz65 : w6.heap.size = w5.heap.size := by rw [hw6]; simp
      rw [← hw6]
      clear hw6 b0 b1 b2 b3 b4
      refine wpListIn_append_same rfl _ _ 30 rfl w.heap.size 3 i3 (.int .i64 0) 1 8 Try.underlying30 hi3 hz3 hz31 hz32 rfl (by decide) _ _ _ rfl (HC6.out.alloc _) ⟨w5.heap.size, 0, none⟩ 1 1 [.int .i64 0] (by rfl) (by rfl) ?d1 ?d2 ?d3 ?d4 ?d5 ?_
      case d1 =>
        intro j u hu
        exact cells_new hz65.symm hu
      case d2 => simp [Value.oneCell']
      case d3 => unfold maxLen; omega
      case d4 => omega
      case d5 => simp; omega
      intro vr' w7 hown' hsame _
      obtain ⟨g2, cap2, rfl⟩ := own_row_succ hown'
      have hsA : Same (fun _ => False) w6 (w6.alloc (.cells #[.int .i64 0] 3)) := same_alloc _
      have hnb : ¬ vr.ownBlock = some w.heap.size := fun h => by
        obtain ⟨_, _, k, hk⟩ := ownsRow_shape HC6.out h
        rw [c4] at hk; cases hk
      have hnr : ∀ g, (Value.slice (some ⟨g', 0, none⟩) (i + 1) cap').ownBlock = some g → ¬ vr.ownBlock = some g := fun g h h' => by
        obtain ⟨_, _, k, hk⟩ := ownsRow_shape HC6.out h'
        obtain ⟨_, _, k', hk'⟩ := ownsRow_shape HO6.out h
        rw [hk] at hk'; cases hk'
      have hsB : Same (fun b => vr.ownBlock = some b) w6 w7 := (hsA.mono (fun _ _ h => h.elim)).trans hsame
      have d0 := hsB.cell c0 hnb
      have d1 := hsB.cell c1 hnb
      have d2 := hsB.unfrozen c0 c2 hnb
      have d3 := hsB.unfrozen c1 c3 hnb
      have d4 := (hsB.shp _ (by omega)).trans c4
      have HOr := Lib.hid hown'
      have HO7 := Lib.hid (ownsRow_same HO6.out hsB hnr)
      have hs7 : Same (fun k => w.heap.size ≤ k) w w7 := (hs5.trans (hs6.mono (fun b _ h => by omega))).trans (hsB.mono (fun b _ h => (ownsRow_shape HC6.out h).1))
      have hz7 := hsB.size
      clear hown' hsame c0 c1 c2 c3 c4 hsB hsA hs5 hs6
      gi_wp2
      obtain ⟨w8, hw8⟩ : ∃ w8, w8 = w7.setCell ⟨w.heap.size, 1, none⟩ (.slice (some ⟨g2, 0, none⟩) (i + 1) cap2) := ⟨_, rfl⟩
      have hs8 : Same (· = w.heap.size) w7 w8 := by rw [hw8]; exact (Same.refl _ _).setCell _ (.inr rfl)
      have e0 : w8.cell? ⟨w.heap.size, 0, none⟩ = some (.slice (some ⟨g', 0, none⟩) (i + 1) cap') := by rw [hw8, World.cell?_setCell_other _ _ _ _ (by simp)]; exact d0
      have e1 : w8.cell? ⟨w.heap.size, 1, none⟩ = some (.slice (some ⟨g2, 0, none⟩) (i + 1) cap2) := by rw [hw8]; exact World.cell?_setCell_same _ _ _ d1
      have e2 : w8.frozen? ⟨w.heap.size, 0, none⟩ = false := by rw [hw8]; simpa using d2
      have e3 : w8.frozen? ⟨w.heap.size, 1, none⟩ = false := by rw [hw8]; simpa using d3
      have e4 := (hs8.shp _ (by omega)).trans d4
      have h9 : w8.ownsRow w.heap.size 9 1 (.slice (some ⟨g', 0, none⟩) (i + 1) cap') (i + 1) (List.replicate (i + 1) (.string z64)) := by
        rw [List.replicate_succ']
        exact ownsRow_same HO7.out hs8 (fun g hg e => by
          subst e
          obtain ⟨_, _, k, hk⟩ := ownsRow_shape HO7.out hg
          rw [d4] at hk; cases hk)
      have h3 : w8.ownsRow w.heap.size 3 1 (.slice (some ⟨g2, 0, none⟩) (i + 1) cap2) (i + 1) (List.replicate (i + 1) (.int .i64 0)) := by
        rw [List.replicate_succ']
        exact ownsRow_same HOr.out hs8 (fun g hg e => by
          subst e
          obtain ⟨_, _, k, hk⟩ := ownsRow_shape HOr.out hg
          rw [d4] at hk; cases hk)
      have hsf : Same (fun _ => False) w w8 := (hs7.trans (hs8.mono (fun b _ h => by omega))).mono (fun k h h' => by omega)
      have hz8 := hs8.size
      have HF := Lib.hid (And.intro e0 (And.intro e1 (And.intro e2 (And.intro e3 (And.intro e4 (And.intro h9 (And.intro h3 hsf)))))))
      rw [← hw8]
      clear hw8 d0 d1 d2 d3 d4 e0 e1 e2 e3 e4 h9 h3 hs8
      go_roundw
      case rel =>
        obtain ⟨e0, e1, e2, e3, e4, h9, h3, hsf⟩ := HF.out
        exact ⟨i + 1, by omega, by go_num, _, _, e0, e1, e2, e3, e4, h9, h3, hsf, by omega⟩
      case measure => simp [intOf]; omega
    · obtain rfl : i = n := by omega
      gi_wp2
      obtain ⟨j, rfl⟩ : ∃ j, i = j + 1 := ⟨i - 1, by omega⟩
      obtain ⟨gb, cb, rfl⟩ := own_row_succ HB.out
      obtain ⟨gr, cr, rfl⟩ := own_row_succ HC.out
      have hx : ∀ (b i : Nat), (⟨b, 0, none⟩ : Addr).add i = ⟨b, i, none⟩ := by intro b i; unfold Addr.add; by_cases h : i = 0 <;> simp [h]
      have s1 := ownsRow_shape HB.out rfl
      have s2 := ownsRow_shape HC.out rfl
      obtain ⟨_, _, k1, hk1⟩ := s1
      obtain ⟨_, _, k2, hk2⟩ := s2
      have hfr : ∀ {e g cap : Nat} {xs : List Value}, wr.ownsRow w.heap.size e 1 (.slice (some ⟨g, 0, none⟩) (j + 1) cap) (j + 1) xs → ∀ o, wr.frozen? ⟨g, o, none⟩ = false := by
        intro e g cap xs h o
        rcases h.2 with ⟨h0, _⟩ | ⟨g', cap', cur, h0, _, h1, _⟩
        · cases h0
        · cases h0
          unfold World.frozen?
          rw [h1]
          simp
      refine bodyPost_ret (results_tmp2 rfl _ _ _) rfl ⟨w.heap.size, gb, gr, rfl, Nat.le_refl _, by omega, by omega, ⟨⟨cb, a0⟩, ⟨cr, a1⟩, fun i hi => ?_, fun i hi => ?_, hfr HB.out, hfr HC.out, fun i hi => by simp, h1, h2, ?_, ?_, ?_⟩, hs⟩
      · have := HB.out.cells (g := gb) rfl i (.string z64) (by rw [List.getElem?_replicate, if_pos hi])
        rw [hx] at this
        rw [Mm.str_zero]
        exact this
      · have := HC.out.cells (g := gr) rfl i (.int .i64 0) (by rw [List.getElem?_replicate, if_pos hi])
        rw [hx] at this
        exact this
      · intro e; subst e; rw [hk1] at hk2; cases hk2
      · intro e; rw [← e, a4] at hk1; cases hk1
      · intro e; rw [← e, a4] at hk2; cases hk2

theorem rroot_any {w : World} {r rb rr : Nat} {M : Mm} (h : RefAt w r rb rr M) :
    Calls Try.prog 29 #[.pointer (some ⟨r, 0, none⟩)] w fun e w' =>
      ((∀ i, i < M.n → 0 < M.R i) ∧ e = .returned (.tuple #[.int .i64 0, .int .i64 11]) ∧ RefAt w' r rb rr M ∧ Same (fun _ => False) w w') ∨
      (∃ k, k < M.n ∧ M.R k ≤ 0 ∧ (∀ i, i < k → 0 < M.R i) ∧ e = .returned (.tuple #[.int .i64 k, .int .i64 0]) ∧ RefAt w' r rb rr (M.alloc k) ∧ Same (fun b => b = rb ∨ b = rr) w w') := by
  go_enter Try.func29, Try.ntmps29
  go_wp2_with fail
  refine (ralloc_any h).mono ?_
  rintro e w' (⟨h1, rfl, h2, h3⟩ | ⟨k, h0, h1, h2, rfl, h3, h4⟩)
  · go_wp2
    go_ret2
    exact .inl ⟨h1, rfl, h2, h3⟩
  · go_wp2
    go_ret2
    exact .inr ⟨k, h0, h1, h2, rfl, h3, h4⟩
end Go.Proofs.Ytlbgnmcjdmdjpaa
namespace Go.Proofs.Ytlbgnmcjdmdjpaa
open Go.RowKit Go.Shelf
attribute [local go_sem] Oper.semAt_some

/-- Entries without flags are empty, in the root and in its tables. -/
structure Mm.Clean (M : Mm) (root : Int) : Prop where
  top : ∀ i, i < 16 → (M.get root i).1 = 0 → M.get root i = (0, 0)
  low : ∀ i j, i < 16 → j < 16 → (M.get root i).1 ≠ 0 → (M.get (M.get root i).2 j).1 = 0 → M.get (M.get root i).2 j = (0, 0)
theorem Mm.Tree.clean {M : Mm} {r : Nat} {T : Nat → Option Nat} {cu : Nat} (h : M.Tree r T cu) : M.Clean r := by
  have hu : M.isUsed r = true := Mm.isUsed_nat h.rn (by rw [h.rR]; decide)
  have hg : ∀ i, M.get r i = M.ent r i := by intro i; simp [Mm.get, hu]
  refine ⟨fun i hi hz => ?_, fun i j hi hj hz h0 => ?_⟩
  · rw [hg] at hz ⊢
    cases hT : T i with
    | none => exact h.top0 i hi hT
    | some k => rw [h.top1 i k hT] at hz; simp at hz
  · rw [hg] at hz h0 ⊢
    cases hT : T i with
    | none => rw [h.top0 i hi hT] at hz; exact absurd rfl hz
    | some k =>
      rw [h.top1 i k hT] at h0 ⊢
      obtain ⟨a1, a2, a3, a4⟩ := h.tb i k hT
      have huk : M.isUsed k = true := Mm.isUsed_nat a2 (by rw [a4]; decide)
      have hgk : M.get k j = M.ent k j := by simp [Mm.get, huk]
      simp only at h0 ⊢
      rw [hgk] at h0 ⊢
      exact h.low i k j hT hj h0
/-- The new table is empty. -/
theorem Mm.new_empty {M : Mm} {root : Int} (hu : M.isUsed root = true) {k : Nat} (hz : M.R k ≤ 0) (i j fr : Nat) : ((M.alloc k).put root i 1 fr).get k j = (0, 0) := by
  obtain ⟨r, rfl, hr, hR⟩ := Mm.used_iff hu
  have hkr : k ≠ r := by intro e; subst e; omega
  unfold Mm.get
  split
  · rw [Int.toNat_natCast]
    have hB : ∀ o, ((M.alloc k).put r i 1 fr).B k o = 0 := by
      intro o
      rw [Mm.put_B _ _ _ _ _ _ _ hkr]
      simp [Mm.alloc]
    simp [Mm.ent, hB]
  · rfl

set_option maxHeartbeats 6400000 in
set_option maxRecDepth 16384 in
theorem rmap_any {w : World} {r rb rr : Nat} {M : Mm} (h : RefAt w r rb rr M) (root page frame flags : Int) (hcl : M.Clean root) :
    Calls Try.prog 30 #[.pointer (some ⟨r, 0, none⟩), .int .i64 root, .int .i64 page, .int .i64 frame, .int .i64 flags] w fun e w' => e = .returned (.int .i64 (M.map root page frame flags).2) ∧ RefAt w' r rb rr (M.map root page frame flags).1 ∧ Same (fun b => b = rb ∨ b = rr) w w' := by
  by_cases hc : M.check root page = 0
  · have hpg := Mm.check_range hc
    obtain ⟨p, rfl⟩ := Int.eq_ofNat_of_zero_le hpg.1
    have hu : M.isUsed root = true := by
      cases hu : M.isUsed root with
      | true => rfl
      | false => simp [Mm.check, hu] at hc
    by_cases hfr : 0 ≤ frame ∧ frame ≤ 255
    · obtain ⟨fr, rfl⟩ := Int.eq_ofNat_of_zero_le hfr.1
      by_cases hfl : flags = 1 ∨ flags = 3 ∨ flags = 5 ∨ flags = 7
      · obtain ⟨fl, rfl⟩ := Int.eq_ofNat_of_zero_le (show 0 ≤ flags by omega)
        have hm : M.map root p fr fl = if M.get root (p / 16) = (0, 0) then match M.least with
            | none => (M, 11)
            | some k => ((M.alloc k).put root (p / 16) 1 k).mapLow k (p % 16) fl fr
          else M.mapLow (M.get root (p / 16)).2 (p % 16) fl fr := by
          simp only [Mm.map, hc, ne_eq, not_true_eq_false, if_false, Int.toNat_natCast]; rw [if_neg (by omega)]; try rfl
        obtain ⟨R, hRe⟩ : ∃ R, R = M.map root p fr fl := ⟨_, rfl⟩
        rw [← hRe]
        have HRE := Lib.hid (hRe.trans hm)
        clear hRe
        have h16 : ((p : Int).tdiv 16) = ((p / 16 : Nat) : Int) := by rw [Int.tdiv_eq_ediv_of_nonneg (by omega)]; omega
        have hm16 : ((p : Int).tmod 16) = ((p % 16 : Nat) : Int) := by rw [Int.tmod_eq_emod_of_nonneg (by omega)]; omega
        have hl : p / 16 < 16 := by omega
        have hl2 : p % 16 < 16 := by omega
        have c16 : ((p / 16 : Nat) : Int) = (p : Int) / 16 := by omega
        have cm16 : ((p % 16 : Nat) : Int) = (p : Int) % 16 := by omega
        have hd1 : decide ((fr : Int) < 0) = false := by simp
        have hd2 : decide (255 < (fr : Int)) = false := by simp; omega
        have hfr2 : fr < 65536 := by omega
        have hfl2 : fl < 256 := by omega
        have hbits : (((fl : Int) != 1) = false) ∨ (((fl : Int) != 1) = true ∧ ((fl : Int) != 3) = false) ∨ (((fl : Int) != 1) = true ∧ ((fl : Int) != 3) = true ∧ ((fl : Int) != 5) = false) ∨
            (((fl : Int) != 1) = true ∧ ((fl : Int) != 3) = true ∧ ((fl : Int) != 5) = true ∧ ((fl : Int) != 7) = false) := by
          rcases hfl with e | e | e | e <;> simp [e]
        have hrt := right_any h root p
        rw [hc] at hrt
        have hent := fun w' (M' : Mm) (hM : RefAt w' r rb rr M') (t : Int) => rentry_any hM t (p % 16) hl2
        have htop := fun w' (hM : RefAt w' r rb rr M) => rentry_any hM root (p / 16) hl
        have hput := fun w' (M' : Mm) (hM : RefAt w' r rb rr M') (t : Int) => rset_any hM t (p % 16) fl fr hl2 hfl2 hfr2
        have hputtop := fun w' (M' : Mm) (hM : RefAt w' r rb rr M') (k : Nat) (hk : k < 65536) => rset_any hM root (p / 16) 1 k hl (by omega) hk
        rw [cm16] at hent hput
        rw [c16] at htop hputtop
        have HENT := Lib.hid @hent
        have HTOP := Lib.hid @htop
        have HPUT := Lib.hid @hput
        have HPT := Lib.hid @hputtop
        have HRT := Lib.hid hrt
        have HC := Lib.hid hc
        have HU := Lib.hid hu
        have HCL := Lib.hid hcl
        have hp256 : (p : Int) ≤ 255 := hpg.2
        clear hent htop hput hputtop hrt hc hfr hfl c16 cm16 hm hpg hcl hu
        obtain ⟨⟨tf, tn⟩, hT⟩ : ∃ x, x = M.get root (p / 16) := ⟨_, rfl⟩
        have HT := Lib.hid hT
        clear hT
        rcases hbits with hb | ⟨hb, hb'⟩ | ⟨hb, hb', hb''⟩ | ⟨hb, hb', hb'', hb'''⟩
        all_goals
          go_enter Try.func30, Try.ntmps30
          go_wp2_with fail
          refine HRT.out.mono ?_
          rintro e w1 ⟨rfl, rfl⟩
          go_wp2_with fail
          refine (HTOP.out _ h).mono ?_
          rintro e w2 ⟨rfl, hs2⟩
          rw [← HT.out]
          have hM2 := h.same0 hs2
          simp only
          by_cases htz : tf = 0
          · subst htz
            have htn : tn = 0 := by
              have := HCL.out.top (p / 16) hl (by rw [← HT.out])
              rw [← HT.out] at this
              simpa using this
            subst htn
            go_wp2_with fail
            refine (ralloc_any hM2).mono ?_
            rintro e w3 (⟨hall, rfl, hM3, hs3⟩ | ⟨k, hk, hzk, hbel, rfl, hM3, hs3⟩)
            · go_wp2
              go_ret
              have hr2 := HRE.out
              rw [← HT.out, if_pos rfl, Mm.least_none hall] at hr2
              rw [hr2]
              exact ⟨rfl, hM3, (hs2.trans hs3).mono (fun _ _ h => h.elim)⟩
            · have hleast := Mm.least_some hk hzk hbel
              have hr2 := HRE.out
              rw [← HT.out, if_pos rfl, hleast] at hr2
              have hne := Mm.new_empty HU.out hzk (p / 16) (p % 16) k
              simp only [Mm.mapLow, hne, if_true] at hr2
              have HR2 := Lib.hid hr2
              have HNE := Lib.hid hne
              have hk256 : k < 65536 := by have := h.n2; omega
              clear hleast hbel hzk hr2 hne
              go_wp2_with fail
              refine (HPT.out _ _ hM3 k hk256).mono ?_
              rintro e w4 ⟨rfl, hM4, hs4⟩
              go_wp2_with fail
              refine (HENT.out _ _ hM4 k).mono ?_
              rintro e w5 ⟨rfl, hs5⟩
              rw [HNE.out]
              go_wp2_with fail
              refine (HPUT.out _ _ (hM4.same0 hs5) k).mono ?_
              rintro e w6 ⟨rfl, hM6, hs6⟩
              have hs7 := ((((hs2.mono (T := fun b => b = rb ∨ b = rr) (fun _ _ h => h.elim)).trans hs3).trans (hs4.mono (fun _ _ h => .inl h))).trans (hs5.mono (fun _ _ h => h.elim))).trans (hs6.mono (fun _ _ h => .inl h))
              clear hs2 hs3 hs4 hs5 hs6 hM4 hM3 hM2
              go_wp2
              go_ret
              rw [HR2.out]
              exact ⟨rfl, hM6, hs7⟩
          · have htb : (tf == 0) = false := by simpa using htz
            have hr2 := HRE.out
            rw [← HT.out, if_neg (by simp [htz])] at hr2
            have hlow := HCL.out.low (p / 16) (p % 16) hl hl2 (by rw [← HT.out]; exact htz)
            rw [← HT.out] at hlow
            simp only at hr2 hlow
            have HTZ := Lib.hid htz
            obtain ⟨⟨lf, ln⟩, hL⟩ : ∃ x, x = M.get tn (p % 16) := ⟨_, rfl⟩
            simp only [Mm.mapLow] at hr2
            rw [← hL] at hlow hr2
            have HL := Lib.hid hL
            have HR2 := Lib.hid hr2
            have HLOW := Lib.hid hlow
            clear htz hr2 hlow hL
            go_wp2_with fail
            refine (HENT.out _ _ hM2 tn).mono ?_
            rintro e w3 ⟨rfl, hs3⟩
            rw [← HL.out]
            have hM3 := hM2.same0 hs3
            have hs4 := hs2.trans hs3
            simp only
            by_cases hlz : lf = 0
            · subst hlz
              go_wp2_with fail
              refine (HPUT.out _ _ hM3 tn).mono ?_
              rintro e w4 ⟨rfl, hM4, hs5⟩
              go_wp2
              go_ret
              have hr3 := HR2.out
              rw [if_pos (HLOW.out (by trivial))] at hr3
              rw [hr3]
              exact ⟨rfl, hM4, (hs4.mono (fun _ _ h => h.elim)).trans (hs5.mono (fun _ _ h => .inl h))⟩
            · have hlb : (lf != 0) = true := by simpa using hlz
              have HLZ := Lib.hid hlz
              clear hlz
              go_wp2
              go_ret
              have hr3 := HR2.out
              rw [if_neg (by simp [HLZ.out])] at hr3
              rw [hr3]
              exact ⟨rfl, hM3, hs4.mono (fun _ _ h => h.elim)⟩
      · have hm : M.map root p fr flags = (M, 2) := by
          simp only [Mm.map, hc, ne_eq, not_true_eq_false, if_false]; rw [if_pos (by omega)]
        have hb1 : (flags != 1) = true := by simp; omega
        have hb2 : (flags != 3) = true := by simp; omega
        have hb3 : (flags != 5) = true := by simp; omega
        have hb4 : (flags != 7) = true := by simp; omega
        have hd1 : decide ((fr : Int) < 0) = false := by simp
        have hd2 : decide (255 < (fr : Int)) = false := by simp; omega
        have hrt := right_any h root p
        rw [hc] at hrt
        rw [hm]
        clear hm hc hfl hfr hpg
        go_enter Try.func30, Try.ntmps30
        go_wp2_with fail
        refine hrt.mono ?_
        rintro e w1 ⟨rfl, rfl⟩
        go_wp2
        go_ret
        exact ⟨rfl, h, Same.refl _ _⟩
    · have hm : M.map root p frame flags = (M, 2) := by
        simp only [Mm.map, hc, ne_eq, not_true_eq_false, if_false]; rw [if_pos (by omega)]
      have hb : (decide (frame < 0) || decide (255 < frame)) = true := by simp; omega
      have hrt := right_any h root p
      rw [hc] at hrt
      rw [hm]
      clear hm hc hfr hpg
      go_enter Try.func30, Try.ntmps30
      go_wp2_with fail
      refine hrt.mono ?_
      rintro e w1 ⟨rfl, rfl⟩
      go_wp2
      all_goals
        go_ret
        exact ⟨rfl, h, Same.refl _ _⟩
  · have hm : M.map root page frame flags = (M, M.check root page) := by simp [Mm.map, hc]
    have hb : (M.check root page != 0) = true := by simpa using hc
    have hrt := right_any h root page
    rw [hm]
    clear hm hc
    go_enter Try.func30, Try.ntmps30
    go_wp2_with fail
    refine hrt.mono ?_
    rintro e w1 ⟨rfl, rfl⟩
    go_wp2
    go_ret
    exact ⟨rfl, h, Same.refl _ _⟩
end Go.Proofs.Ytlbgnmcjdmdjpaa
