/- proc: the reference's Become, Exit. Conditions: its form. -/
import Derived.Test.YtaeabeofpkfadaaRg
import Derived.Deep.QuietTactic
import Derived.BigQuiet
import Derived.BigRegion
namespace Go.Proofs.Ytaeabeofpkfadaa
open Go.RowKit Go.Shelf
attribute [local go_sem] Oper.semAt_some

set_option maxHeartbeats 1600000 in
set_option maxRecDepth 16384 in
theorem rbecome_any {s : Nat} {w : World} {r g cap : Nat} {L : List Pr} {last : Int} (h : RAt s w r g cap L last) (hi : Inv L last) (pid u v : Int) :
    Calls Try.prog 32 #[.pointer (some ⟨r, 0, none⟩), .int .i64 pid, .agg #[.int .i64 u, .int .i64 v]] w fun e w' => e = .returned (.int .i64 (becE L pid u v).1) ∧ RQ s w r g (putO L (becE L pid u v).2) last w' := by
  have hsA : Same (fun _ => False) w (w.alloc (.cells #[.int .i64 u, .int .i64 v] 32)) := same_alloc _
  have h0 := h.same0 hsA
  have ha := at_any h0 pid
  have hrr := rright_any (w.alloc (.cells #[.int .i64 u, .int .i64 v] 32)) u v
  have HRQ := Lib.hid (fun (w' : World) (hs : Same (fun _ => False) w w') => h.rq hs)
  unfold becE
  rcases at_cases L pid with ⟨h1, h2⟩ | ⟨k, p, h1, hp, h2⟩
  · rw [h2] at ha
    rw [h1]
    simp only [putO]
    clear h h0 h1 h2
    go_enter Try.func32, Try.ntmps32
    go_wp2_with fail
    refine ha.mono ?_
    rintro e w1 ⟨rfl, rfl⟩
    go_wp2
    go_ret
    exact ⟨rfl, HRQ.out _ hsA⟩
  · rw [h2] at ha
    rw [h1]
    have hk0 : ¬ (k : Int) < 0 := by omega
    by_cases hu : u < 0 ∨ 65535 < u ∨ v < 0 ∨ 65535 < v
    · simp only [hu, if_true, putO]
      rw [okU_not hu] at hrr
      clear h h0 h1 h2 hp hu
      go_enter Try.func32, Try.ntmps32
      go_wp2_with fail
      refine ha.mono ?_
      rintro e w1 ⟨rfl, rfl⟩
      go_wp2_with fail
      refine hrr.mono ?_
      rintro e w2 ⟨rfl, hs2⟩
      go_wp2
      go_ret
      exact ⟨rfl, HRQ.out _ (hsA.trans hs2)⟩
    · simp only [hu, if_false]
      rw [okU_yes hu] at hrr
      have hl := h.len
      have hkl := (List.getElem?_eq_some_iff.1 hp).1
      have H0 := Lib.hid h0
      have HP := Lib.hid hp
      have hgr := h.gr
      have hrg : ¬ r = g := fun e => hgr e.symm
      have hrl := h.lt
      clear h h0 h1 h2 hp hu
      obtain ⟨n, hn⟩ : ∃ n, n = L.length := ⟨_, rfl⟩
      have HN := Lib.hid hn
      rw [← hn] at hl hkl
      have hkn : (k : Int) < n := by omega
      clear hn
      by_cases h3 : p.uid ≠ 0 ∧ (p.uid ≠ u ∨ p.gid ≠ v)
      · rw [if_pos h3]
        simp only [putO]
        obtain ⟨h3a, h3b⟩ := h3
        have hb0 : (p.uid != 0) = true := by simpa using h3a
        by_cases hu : p.uid = u
        · have hg2 : ¬ p.gid = v := by omega
          rw [hu] at hb0
          have HU := Lib.hid hu
          clear h3a h3b hu
          go_enter Try.func32, Try.ntmps32
          go_wp2_with fail
          refine ha.mono ?_
          rintro e w1 ⟨rfl, rfl⟩
          go_wp2_with fail
          refine hrr.mono ?_
          rintro e w2 ⟨rfl, hs2⟩
          have h2 := H0.out.same0 hs2
          have hc0 := h2.c0
          rw [← HN.out] at hc0
          have c3 := (h2.at_ HP.out (j := 3) rfl).1
          have c4 := (h2.at_ HP.out (j := 4) rfl).1
          have d0 := hs2.cell (a := ⟨w.heap.size, 0, none⟩) (v := .int .i64 u) (by simp [go_sem]) (fun h => h)
          have d1 := hs2.cell (a := ⟨w.heap.size, 1, none⟩) (v := .int .i64 v) (by simp [go_sem]) (fun h => h)
          rw [HU.out] at c3
          have HS := Lib.hid (hsA.trans hs2)
          clear h2 hs2
          go_wp2
          go_quiet (fail)
          rename_i nq
          go_wp2
          go_ret
          exact ⟨rfl, HRQ.out _ (HS.out.drewN nq)⟩
        · clear h3a h3b
          go_enter Try.func32, Try.ntmps32
          go_wp2_with fail
          refine ha.mono ?_
          rintro e w1 ⟨rfl, rfl⟩
          go_wp2_with fail
          refine hrr.mono ?_
          rintro e w2 ⟨rfl, hs2⟩
          have h2 := H0.out.same0 hs2
          have hc0 := h2.c0
          rw [← HN.out] at hc0
          have c3 := (h2.at_ HP.out (j := 3) rfl).1
          have c4 := (h2.at_ HP.out (j := 4) rfl).1
          have d0 := hs2.cell (a := ⟨w.heap.size, 0, none⟩) (v := .int .i64 u) (by simp [go_sem]) (fun h => h)
          have d1 := hs2.cell (a := ⟨w.heap.size, 1, none⟩) (v := .int .i64 v) (by simp [go_sem]) (fun h => h)
          have HS := Lib.hid (hsA.trans hs2)
          clear h2 hs2
          go_wp2
          go_quiet (fail)
          rename_i nq
          go_wp2
          go_ret
          exact ⟨rfl, HRQ.out _ (HS.out.drewN nq)⟩
      · rw [if_neg h3]
        simp only [putO]
        have fin : ∀ W, RAt s W r g cap L last → Same (fun _ => False) w W → RQ s w r g (put L { p with uid := u, gid := v }) last ((W.setCell ⟨g, k * 8 + 3, none⟩ (.int .i64 u)).setCell ⟨g, k * 8 + 4, none⟩ (.int .i64 v)).drew := by
          intro W hR hs
          have q1 := hR.store (p' := { p with uid := u }) HP.out (j := 3) (v := .int .i64 u) (by omega) rfl
          have hkL : k < L.length := (List.getElem?_eq_some_iff.1 HP.out).1
          have q2 := q1.store (i := k) (p := { p with uid := u }) (p' := { p with uid := u, gid := v }) (List.getElem?_set_self hkL) (j := 4) (v := .int .i64 v) (by omega) rfl
          rw [List.set_set, put_set hi HP.out (p' := { p with uid := u, gid := v }) rfl] at q2
          exact ⟨g, cap, q2.same0 (Same.refl _ _).drew, .inl rfl, ((((hs.mono (fun _ _ h => h.elim)).setCell _ (.inr (.inr rfl))).setCell _ (.inr (.inr rfl)))).drew⟩
        by_cases h0 : p.uid = 0
        · have HH0 := Lib.hid h0
          clear h3 h0
          go_enter Try.func32, Try.ntmps32
          go_wp2_with fail
          refine ha.mono ?_
          rintro e w1 ⟨rfl, rfl⟩
          go_wp2_with fail
          refine hrr.mono ?_
          rintro e w2 ⟨rfl, hs2⟩
          have h2 := H0.out.same0 hs2
          have hc0 := h2.c0
          rw [← HN.out] at hc0
          have c3 := (h2.at_ HP.out (j := 3) rfl).1
          have c4 := (h2.at_ HP.out (j := 4) rfl).1
          have d0 := hs2.cell (a := ⟨w.heap.size, 0, none⟩) (v := .int .i64 u) (by simp [go_sem]) (fun h => h)
          have d1 := hs2.cell (a := ⟨w.heap.size, 1, none⟩) (v := .int .i64 v) (by simp [go_sem]) (fun h => h)
          rw [HH0.out] at c3
          have HS := Lib.hid (hsA.trans hs2)
          have H2 := Lib.hid h2
          have D := Lib.hid (And.intro d0 d1)
          clear h2 hs2
          go_wp2
          go_quiet (fail)
          rename_i nq
          go_wp2
          obtain ⟨W, hW⟩ : ∃ W, W = w2.drewN nq := ⟨_, rfl⟩
          rw [← hW]
          have hsW : Same (fun _ => False) w2 W := by rw [hW]; exact (Same.refl _ _).drewN nq
          have hR := H2.out.same0 hsW
          have e0 := hR.c0
          rw [← HN.out] at e0
          obtain ⟨e3, y3⟩ := hR.at_ HP.out (j := 3) rfl
          obtain ⟨e4, y4⟩ := hR.at_ HP.out (j := 4) rfl
          have f0 := hsW.cell D.out.1 (fun h => h)
          have f1 := hsW.cell D.out.2 (fun h => h)
          have HR := Lib.hid hR
          have HSW := Lib.hid (HS.out.trans hsW)
          clear hW hsW hR c3 c4 d0 d1 hc0
          go_still_tail 8, (by kernel_rfl)
          go_wp2
          go_ret
          exact ⟨rfl, fin W HR.out HSW.out⟩
        · have hu : p.uid = u := by omega
          have hv : p.gid = v := by omega
          have hb0 : (u != 0) = true := by simpa [hu] using h0
          have HU := Lib.hid hu
          have HV := Lib.hid hv
          clear h3 h0 hu hv
          go_enter Try.func32, Try.ntmps32
          go_wp2_with fail
          refine ha.mono ?_
          rintro e w1 ⟨rfl, rfl⟩
          go_wp2_with fail
          refine hrr.mono ?_
          rintro e w2 ⟨rfl, hs2⟩
          have h2 := H0.out.same0 hs2
          have hc0 := h2.c0
          rw [← HN.out] at hc0
          have c3 := (h2.at_ HP.out (j := 3) rfl).1
          have c4 := (h2.at_ HP.out (j := 4) rfl).1
          have d0 := hs2.cell (a := ⟨w.heap.size, 0, none⟩) (v := .int .i64 u) (by simp [go_sem]) (fun h => h)
          have d1 := hs2.cell (a := ⟨w.heap.size, 1, none⟩) (v := .int .i64 v) (by simp [go_sem]) (fun h => h)
          rw [HU.out] at c3
          rw [HV.out] at c4
          have HS := Lib.hid (hsA.trans hs2)
          have H2 := Lib.hid h2
          have D := Lib.hid (And.intro d0 d1)
          clear h2 hs2
          go_wp2
          go_quiet (fail)
          rename_i nq
          go_wp2
          obtain ⟨W, hW⟩ : ∃ W, W = w2.drewN nq := ⟨_, rfl⟩
          rw [← hW]
          have hsW : Same (fun _ => False) w2 W := by rw [hW]; exact (Same.refl _ _).drewN nq
          have hR := H2.out.same0 hsW
          have e0 := hR.c0
          rw [← HN.out] at e0
          obtain ⟨e3, y3⟩ := hR.at_ HP.out (j := 3) rfl
          obtain ⟨e4, y4⟩ := hR.at_ HP.out (j := 4) rfl
          have f0 := hsW.cell D.out.1 (fun h => h)
          have f1 := hsW.cell D.out.2 (fun h => h)
          have HR := Lib.hid hR
          have HSW := Lib.hid (HS.out.trans hsW)
          clear hW hsW hR c3 c4 d0 d1 hc0
          go_still_tail 8, (by kernel_rfl)
          go_wp2
          go_ret
          exact ⟨rfl, fin W HR.out HSW.out⟩
end Go.Proofs.Ytaeabeofpkfadaa
