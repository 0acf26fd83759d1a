import Derived.Test.YtlbgnmcjdmdjpaaL
namespace Go.Proofs.Ytlbgnmcjdmdjpaa
open Go.RowKit Go.Shelf
attribute [local go_sem] Oper.semAt_some

/-- What Unmap leaves. -/
def Mm.cut (M : Mm) (root t : Int) (i j : Nat) : Mm := if (M.put t j 0 0).empty t then ((M.put t j 0 0).free t).put root i 0 0 else M.put t j 0 0
def Mm.unmap (M : Mm) (root page : Int) : Mm × Int × Int :=
  if (M.walk root page).2.2 ≠ 0 then (M, 0, (M.walk root page).2.2)
  else (M.cut root (M.get root (page.toNat / 16)).2 (page.toNat / 16) (page.toNat % 16), (M.walk root page).1, 0)
theorem Mm.check_range {M : Mm} {root page : Int} (hc : M.check root page = 0) : 0 ≤ page ∧ page ≤ 255 := by
  unfold Mm.check at hc
  split at hc
  · split at hc
    · assumption
    · omega
  · omega
theorem Mm.walk_range {M : Mm} {root page : Int} (h : (M.walk root page).2.2 = 0) : 0 ≤ page ∧ page ≤ 255 := by
  by_cases hc : M.check root page = 0
  · exact Mm.check_range hc
  · simp only [Mm.walk, ne_eq, hc, not_false_eq_true, if_true] at h
theorem unmap_nil (w : World) (root page : Int) (hp : In64 page) : Calls Try.prog 27 #[.pointer none, .int .i64 root, .int .i64 page] w fun e w' => e = .returned (.tuple #[.int .i64 0, .int .i64 1]) ∧ Same (fun _ => False) w w' := by
  go_enter Try.func27, Try.ntmps27
  go_wp2_with fail
  refine (walk_nil _ root page hp).mono ?_
  rintro e w' ⟨rfl, hs⟩
  go_wp2
  go_ret2
  exact ⟨rfl, hs⟩

theorem field108 (w : World) (x y : Int) : (Instr.field 108 (.agg #[.int .i64 x, .int .i64 y]) 1).run Try.prog w = .ok (.int .i64 y) w := by
  have hu : Try.prog.underlying 108 = some (.struct (Try.prog.fieldsOf 108)) := by kernel_rfl
  simp [Instr.field, go_sem, run_underlying hu, part, isAgg, asAgg, Sem.run_bind, Result.andThen]
set_option maxHeartbeats 3200000 in
set_option maxRecDepth 8192 in
theorem unmap_any {w : World} {f fb : Nat} {M : Mm} (h : MemAt w f fb M) (root page : Int) (hp : In64 page) :
    Calls Try.prog 27 #[.pointer (some ⟨f, 0, none⟩), .int .i64 root, .int .i64 page] w fun e w' => e = .returned (.tuple #[.int .i64 (M.unmap root page).2.1, .int .i64 (M.unmap root page).2.2]) ∧ MemAt w' f fb (M.unmap root page).1 ∧ Same (· = fb) w w' := by
  obtain ⟨R, hR⟩ : ∃ R, R = M.unmap root page := ⟨_, rfl⟩
  rw [← hR]
  have hwk := walk_any h root page hp
  obtain ⟨⟨wf, wg, we⟩, hW⟩ : ∃ x, x = M.walk root page := ⟨_, rfl⟩
  rw [← hW] at hwk
  simp only at hwk
  by_cases hz : we = 0
  · subst hz
    have hpg := Mm.walk_range (M := M) (root := root) (page := page) (by rw [← hW])
    obtain ⟨p, rfl⟩ := Int.eq_ofNat_of_zero_le hpg.1
    have hm : R = (M.cut root (M.get root (p / 16)).2 (p / 16) (p % 16), wf, 0) := by
      rw [hR]; unfold Mm.unmap; rw [← hW]; simp
    have h16 : ((p : Int).tdiv 16) = ((p / 16 : Nat) : Int) := by rw [Int.tdiv_eq_ediv_of_nonneg (by omega)]; omega
    have hm16 : ((p : Int).tmod 16) = ((p % 16 : Nat) : Int) := by rw [Int.tmod_eq_emod_of_nonneg (by omega)]; omega
    have hl : p / 16 < 16 := by omega
    have hl2 : p % 16 < 16 := by omega
    have c16 : ((p / 16 : Nat) : Int) = (p : Int) / 16 := by omega
    have cm16 : ((p % 16 : Nat) : Int) = (p : Int) % 16 := by omega
    have htop := fun w' (hM : MemAt w' f fb M) => get_any hM root (p / 16) hl
    have hpl := fun w' (M' : Mm) (hM : MemAt w' f fb M') (t : Int) => put_any hM t (p % 16) 0 0 hl2 (by omega) (by omega)
    have hpt := fun w' (M' : Mm) (hM : MemAt w' f fb M') => put_any hM root (p / 16) 0 0 hl (by omega) (by omega)
    rw [c16] at htop hpt h16
    rw [cm16] at hpl hm16
    obtain ⟨⟨tf, tn⟩, hT⟩ : ∃ x, x = M.get root (p / 16) := ⟨_, rfl⟩
    rw [← hT] at htop hm
    simp only at htop hm
    have HTOP := Lib.hid @htop
    have HPL := Lib.hid @hpl
    have HPT := Lib.hid @hpt
    have HM := Lib.hid hm
    have HWK := Lib.hid hwk
    have hlt := h.lt
    clear htop hpl hpt hm hwk hT hW hR c16 cm16 hpg
    go_enter Try.func27, Try.ntmps27
    go_wp2_with fail
    refine HWK.out.mono ?_
    rintro e w1 ⟨rfl, hs1⟩
    go_wp2_with fail
    refine (of_any _ p hp).mono ?_
    rintro e w2 ⟨rfl, hs2⟩
    rw [h16, hm16]
    have hz2 := (hs1.trans hs2).size
    have hs3 := (hs1.trans hs2).alloc (.cells #[.int .i64 ((p : Int) / 16), .int .i64 ((p : Int) % 16)] 114)
    go_wp2_with fail
    refine (HTOP.out _ (h.same0 hs3)).mono ?_
    rintro e w3 ⟨rfl, hs4⟩
    obtain ⟨g0, g1, -, -, g4⟩ := new2 hs4 (by simp)
    have hs5 := hs3.trans hs4
    have hfd := field108 w3 tf tn
    clear hs1 hs2 hs3 hs4
    go_wp2_with fail
    refine (HPL.out _ M (h.same0 hs5) tn).mono ?_
    rintro e w4 ⟨rfl, hM4, hs6⟩
    have k0 := hs6.cell g0 (by simp; omega)
    have k1 := hs6.cell g1 (by simp; omega)
    have hs7 := (hs5.mono (T := (· = fb)) (fun _ _ h => h.elim)).trans hs6
    clear hs5 hs6 g0 g1
    obtain ⟨M1, hM1⟩ : ∃ M1, M1 = M.put tn (p % 16) 0 0 := ⟨_, rfl⟩
    rw [← hM1] at hM4
    have hme := HM.out
    unfold Mm.cut at hme
    rw [← hM1] at hme
    clear hM1
    go_wp2_with fail
    refine (isEmpty_any hM4 tn).mono ?_
    rintro e w5 ⟨rfl, hs8⟩
    have m0 := hs8.cell k0 (by simp)
    have m1 := hs8.cell k1 (by simp)
    have hM5 := hM4.same0 hs8
    have hs9 := hs7.trans (hs8.mono (fun _ _ h => h.elim))
    clear hs7 hs8 k0 k1 hM4
    cases hem : M1.empty tn with
    | false =>
      rw [hem] at hme
      have HME := Lib.hid hme
      clear hme hem
      go_wp2
      go_ret2
      have := HME.out
      simp only [Bool.false_eq_true, if_false] at this
      rw [this]
      exact ⟨rfl, hM5, hs9⟩
    | true =>
      rw [hem] at hme
      have HME := Lib.hid hme
      clear hme hem
      go_wp2_with fail
      refine (free_any hM5 tn).mono ?_
      rintro e w6 ⟨rfl, hM6, hsA⟩
      generalize (if M1.isUsed tn = true then (0 : Int) else 10) = fe
      have n0 := hsA.cell m0 (by simp; omega)
      have n1 := hsA.cell m1 (by simp; omega)
      clear m0 m1
      go_wp2_with fail
      refine (HPT.out _ _ hM6).mono ?_
      rintro e w7 ⟨rfl, hM7, hsB⟩
      go_wp2
      go_ret2
      have := HME.out
      simp only [if_true] at this
      rw [this]
      exact ⟨rfl, hM7, (hs9.trans hsA).trans hsB⟩
  · have hm : R = (M, 0, we) := by rw [hR]; unfold Mm.unmap; rw [← hW]; simp [hz]
    have hb : (we == 0) = false := by simpa using hz
    rw [hm]
    clear hm hz hR hW
    go_enter Try.func27, Try.ntmps27
    go_wp2_with fail
    refine hwk.mono ?_
    rintro e w1 ⟨rfl, hs1⟩
    go_wp2
    go_ret2
    exact ⟨rfl, h.same0 hs1, hs1.mono (fun _ _ h => h.elim)⟩
end Go.Proofs.Ytlbgnmcjdmdjpaa
