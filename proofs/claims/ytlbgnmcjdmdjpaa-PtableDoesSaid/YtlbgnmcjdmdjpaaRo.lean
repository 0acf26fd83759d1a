/- The reference's Unmap, Drop, Pages. Conditions: the memory's form. -/
import Derived.Test.YtlbgnmcjdmdjpaaRn
namespace Go.Proofs.Ytlbgnmcjdmdjpaa
open Go.RowKit Go.Shelf
attribute [local go_sem] Oper.semAt_some

theorem rset0_any {w : World} {r rb rr : Nat} {M : Mm} (h : RefAt w r rb rr M) (t : Int) (i : Nat) (hi : i < 16) :
    Calls Try.prog 70 #[.pointer (some ⟨r, 0, none⟩), .int .i64 t, .int .i64 i, .int .i64 0, .int .i64 0] w fun e w' => e = .returned (.tuple #[]) ∧ RefAt w' r rb rr (M.put t i 0 0) ∧ Same (· = rb) w w' :=
  rset_any h t i 0 0 hi (by omega) (by omega)
theorem Mm.empty_iff' (M : Mm) (t : Int) : M.empty t = true ↔ ∀ i, i < 16 → (M.get t i).1 = 0 := Mm.empty_iff M t

set_option maxHeartbeats 3200000 in
set_option maxRecDepth 16384 in
theorem runmap_any {w : World} {r rb rr : Nat} {M : Mm} (h : RefAt w r rb rr M) (root page : Int) :
    Calls Try.prog 32 #[.pointer (some ⟨r, 0, none⟩), .int .i64 root, .int .i64 page] w fun e w' => e = .returned (.tuple #[.int .i64 (M.unmap root page).2.1, .int .i64 (M.unmap root page).2.2]) ∧ RefAt w' r rb rr (M.unmap root page).1 ∧ Same (fun b => b = rb ∨ b = rr) w w' := by
  have hwk := rwalk_any h root page
  obtain ⟨⟨wf, wg, we⟩, hW⟩ : ∃ x, x = M.walk root page := ⟨_, rfl⟩
  rw [← hW] at hwk
  by_cases hz : we = 0
  · have hrange := Mm.walk_range (M := M) (root := root) (page := page) (by rw [← hW]; exact hz)
    subst hz
    obtain ⟨p, rfl⟩ := Int.eq_ofNat_of_zero_le hrange.1
    have hm : M.unmap root p = (M.cut root (M.get root (p / 16)).2 (p / 16) (p % 16), wf, 0) := by
      simp only [Mm.unmap, ← hW, ne_eq, not_true_eq_false, if_false, Int.toNat_natCast]
    rw [hm]
    obtain ⟨⟨tf, tn⟩, hT⟩ : ∃ x, x = M.get root (p / 16) := ⟨_, rfl⟩
    have htop := fun w' (hM : RefAt w' r rb rr M) => rentry_any hM root (p / 16) (by omega)
    rw [← hT] at htop
    rw [← hT]
    have h16 : ((p : Int).tdiv 16) = ((p / 16 : Nat) : Int) := by rw [Int.tdiv_eq_ediv_of_nonneg (by omega)]; omega
    have hm16 : ((p : Int).tmod 16) = ((p % 16 : Nat) : Int) := by rw [Int.tmod_eq_emod_of_nonneg (by omega)]; omega
    have hput := fun w' (hM : RefAt w' r rb rr M) => rset0_any hM tn (p % 16) (by omega)
    have hput2 := fun w' (M' : Mm) (hM : RefAt w' r rb rr M') => rset0_any hM root (p / 16) (by omega)
    rw [show ((p / 16 : Nat) : Int) = (p : Int) / 16 by omega] at htop hput2
    rw [show ((p % 16 : Nat) : Int) = (p : Int) % 16 by omega] at hput
    obtain ⟨M1, hM1⟩ : ∃ x, x = M.put tn (p % 16) 0 0 := ⟨_, rfl⟩
    rw [← hM1] at hput
    have hcut : M.cut root tn (p / 16) (p % 16) = if M1.empty tn then ((M1.free tn).put root (p / 16) 0 0) else M1 := by
      unfold Mm.cut; rw [← hM1]
    simp only
    obtain ⟨R, hR⟩ : ∃ x, x = M.cut root tn (p / 16) (p % 16) := ⟨_, rfl⟩
    rw [← hR]
    have HCUT := Lib.hid (hR.trans hcut)
    have hemp := Mm.empty_iff M1 tn
    have HEMP := Lib.hid hemp
    have HTOP := Lib.hid @htop
    have HPUT := Lib.hid @hput
    have HPUT2 := Lib.hid @hput2
    have hp256 : (p : Int) ≤ 255 := hrange.2
    clear hm hT htop hput hput2 hM1 hcut hR hemp hrange hW h16 hm16
    go_enter Try.func32, Try.ntmps32
    go_wp2_with fail
    refine hwk.mono ?_
    rintro e w1 ⟨rfl, hs1⟩
    have hA1 := h.same0 hs1
    go_wp2_with fail
    refine (HTOP.out _ hA1).mono ?_
    rintro e w2 ⟨rfl, hs2⟩
    have hA2 := hA1.same0 hs2
    go_wp2_with fail
    refine (HPUT.out _ hA2).mono ?_
    rintro e w3 ⟨rfl, hA3, hs3⟩
    have hs4 : Same (fun b => b = rb ∨ b = rr) w w3 := ((hs1.trans hs2).mono (fun _ _ h => h.elim)).trans (hs3.mono (fun _ _ h => .inl h))
    clear hs1 hs2 hs3 hA1 hA2
    go_wp2
    go_loopw [13] (fun v13 wr => ∃ i : Nat, i ≤ 16 ∧ v13 = .int .i64 i ∧ (∀ j, j < i → (M1.get tn j).1 = 0) ∧ Same (fun _ => False) w3 wr) (fun v13 _ => 16 - (intOf v13).toNat)
    case atStart => exact ⟨0, by omega, rfl, by omega, Same.refl _ _⟩
    case round =>
      obtain ⟨i, hi, rfl, hall, hsr⟩ := hrel
      have HALL := Lib.hid hall
      clear hall
      have hAr := hA3.same0 hsr
      by_cases hlt : i < 16
      · have hli : (i : Int) < 16 := by omega
        have hen := rentry_any hAr tn i hlt
        obtain ⟨⟨ef, en⟩, hE⟩ : ∃ x, x = M1.get tn i := ⟨_, rfl⟩
        rw [← hE] at hen
        have HE := Lib.hid hE
        have HEN := Lib.hid hen
        clear hE hen
        by_cases hz : ef = 0
        · subst hz
          go_wp2_with fail
          refine HEN.out.mono ?_
          rintro e w5 ⟨rfl, hs5⟩
          go_wp2
          go_round
          case rel =>
            refine ⟨i + 1, by omega, by go_num, fun j hj => ?_, hsr.trans hs5⟩
            by_cases e : j = i
            · subst e; rw [← HE.out]
            · exact HALL.out j (by omega)
          case measure => simp [intOf]; omega
        · have hzb : (ef != 0) = true := by simpa using hz
          have HZ := Lib.hid hz
          clear hz
          go_wp2_with fail
          refine HEN.out.mono ?_
          rintro e w5 ⟨rfl, hs5⟩
          go_wp2
          go_ret2
          have hne : M1.empty tn ≠ true := fun hh => by
            have := (HEMP.out.1 hh) i hlt
            rw [← HE.out] at this
            exact HZ.out this
          rw [HCUT.out, if_neg hne]
          exact ⟨rfl, hAr.same0 hs5, (hs4.trans (hsr.mono (fun _ _ h => h.elim))).trans (hs5.mono (fun _ _ h => h.elim))⟩
      · obtain rfl : i = 16 := by omega
        have hcut := HCUT.out
        rw [if_pos (HEMP.out.2 HALL.out)] at hcut
        have HC2 := Lib.hid hcut
        clear hcut
        go_wp2_with fail
        refine (rfree_any hAr tn).mono ?_
        rintro e w5 ⟨rfl, hA5, hs5⟩
        generalize (if M1.isUsed tn = true then (0 : Int) else 10) = fe
        go_wp2_with fail
        refine (HPUT2.out _ _ hA5).mono ?_
        rintro e w6 ⟨rfl, hA6, hs6⟩
        go_wp2
        go_ret2
        rw [HC2.out]
        exact ⟨rfl, hA6, ((hs4.trans (hsr.mono (fun _ _ h => h.elim))).trans hs5).trans (hs6.mono (fun _ _ h => .inl h))⟩
  · have hm : M.unmap root page = (M, 0, we) := by
      simp only [Mm.unmap, ← hW, ne_eq, hz, not_false_eq_true, if_true]
    have hb : (we != 0) = true := by simpa using hz
    rw [hm]
    clear hm hW hz
    go_enter Try.func32, Try.ntmps32
    go_wp2_with fail
    refine hwk.mono ?_
    rintro e w1 ⟨rfl, hs1⟩
    go_wp2
    go_ret2
    exact ⟨rfl, h.same0 hs1, hs1.mono (fun _ _ h => h.elim)⟩

set_option maxHeartbeats 3200000 in
set_option maxRecDepth 16384 in
theorem rdrop_any {w : World} {r rb rr : Nat} {M : Mm} (h : RefAt w r rb rr M) (root : Int) :
    Calls Try.prog 38 #[.pointer (some ⟨r, 0, none⟩), .int .i64 root] w fun e w' => e = .returned (.int .i64 (M.drop root).2) ∧ RefAt w' r rb rr (M.drop root).1 ∧ Same (fun b => b = rb ∨ b = rr) w w' := by
  have hrt := right_any h root 0
  obtain ⟨R, hR⟩ : ∃ R, R = M.drop root := ⟨_, rfl⟩
  rw [← hR]
  by_cases hc : M.check root 0 = 0
  · have hm : R = ((M.dropSt root 16).free root, if (M.dropSt root 16).isUsed root then 0 else 10) := by rw [hR]; unfold Mm.drop; simp [hc]
    have HM := Lib.hid hm
    rw [hc] at hrt
    clear hm hR hc
    go_enter Try.func38, Try.ntmps38
    go_wp2_with fail
    refine hrt.mono ?_
    rintro e w1 ⟨rfl, rfl⟩
    go_wp2
    go_loopw [6] (fun v6 wr => ∃ i : Nat, i ≤ 16 ∧ v6 = .int .i64 i ∧ RefAt wr r rb rr (M.dropSt root i) ∧ Same (fun b => b = rb ∨ b = rr) w wr) (fun v6 _ => 16 - (intOf v6).toNat)
    case atStart => exact ⟨0, by omega, rfl, h, Same.refl _ _⟩
    case round =>
      obtain ⟨i, hi, rfl, hA, hsr⟩ := hrel
      by_cases hlt : i < 16
      · have hli : (i : Int) < 16 := by omega
        have hst : M.dropSt root (i + 1) = if ((M.dropSt root i).get root i).1 = 0 then M.dropSt root i else (M.dropSt root i).free ((M.dropSt root i).get root i).2 := rfl
        generalize M.dropSt root i = M1 at hst hA
        have hen := rentry_any hA root i hlt
        obtain ⟨⟨ef, en⟩, hE⟩ : ∃ x, x = M1.get root i := ⟨_, rfl⟩
        rw [← hE] at hen hst
        have HST := Lib.hid hst
        clear hst hE
        by_cases hz : ef = 0
        · subst hz
          go_wp2_with fail
          refine hen.mono ?_
          rintro e w5 ⟨rfl, hs5⟩
          go_wp2
          go_round
          case rel =>
            refine ⟨i + 1, by omega, by go_num, ?_, hsr.trans (hs5.mono (fun _ _ h => h.elim))⟩
            rw [HST.out, if_pos trivial]
            exact hA.same0 hs5
          case measure => simp [intOf]; omega
        · have hzb : (ef != 0) = true := by simpa using hz
          have HZ := Lib.hid hz
          clear hz
          go_wp2_with fail
          refine hen.mono ?_
          rintro e w5 ⟨rfl, hs5⟩
          go_wp2_with fail
          refine (rfree_any (hA.same0 hs5) en).mono ?_
          rintro e w6 ⟨rfl, hA6, hs6⟩
          generalize (if M1.isUsed en = true then (0 : Int) else 10) = fe
          go_wp2
          go_round
          case rel =>
            refine ⟨i + 1, by omega, by go_num, ?_, (hsr.trans (hs5.mono (fun _ _ h => h.elim))).trans hs6⟩
            rw [HST.out, if_neg HZ.out]
            exact hA6
          case measure => simp [intOf]; omega
      · obtain rfl : i = 16 := by omega
        have hm := HM.out
        generalize M.dropSt root 16 = M1 at hm hA
        have HM2 := Lib.hid hm
        clear hm
        obtain ⟨fe, hfe⟩ : ∃ fe, fe = (if M1.isUsed root = true then (0 : Int) else 10) := ⟨_, rfl⟩
        have HFE := Lib.hid hfe
        clear hfe
        go_wp2_with fail
        refine (rfree_any hA root).mono ?_
        rintro e w6 ⟨rfl, hA6, hs6⟩
        rw [← HFE.out]
        go_wp2
        go_ret
        rw [HM2.out]
        exact ⟨by rw [HFE.out]; rfl, hA6, hsr.trans hs6⟩
  · have hm : R = (M, M.check root 0) := by rw [hR]; unfold Mm.drop; simp [hc]
    have hb : (M.check root 0 != 0) = true := by simpa using hc
    rw [hm]
    clear hm hR hc
    go_enter Try.func38, Try.ntmps38
    go_wp2_with fail
    refine hrt.mono ?_
    rintro e w1 ⟨rfl, rfl⟩
    go_wp2
    go_ret
    exact ⟨rfl, h, Same.refl _ _⟩
end Go.Proofs.Ytlbgnmcjdmdjpaa
