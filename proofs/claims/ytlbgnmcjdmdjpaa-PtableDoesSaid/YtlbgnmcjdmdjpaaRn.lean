/- The reference's Free, Left, Walk, Unmap, Drop, Pages. Conditions: the memory's form. -/
import Derived.Test.YtlbgnmcjdmdjpaaRm
import Derived.Test.YtlbgnmcjdmdjpaaIs
namespace Go.Proofs.Ytlbgnmcjdmdjpaa
open Go.RowKit Go.Shelf
attribute [local go_sem] Oper.semAt_some

theorem RefAt.setR {w : World} {r rb rr : Nat} {M : Mm} (h : RefAt w r rb rr M) {k : Nat} (hk : k < M.n) {v : Int} (hv : 0 ≤ v ∧ v < 1000000) :
    RefAt (w.setCell ⟨rr, k, none⟩ (.int .i64 v)) r rb rr (M.setR k v) := by
  have hs : Same (· = rr) w (w.setCell ⟨rr, k, none⟩ (.int .i64 v)) := (Same.refl _ _).setCell _ (.inr rfl)
  obtain ⟨cap, hc⟩ := h.cb
  obtain ⟨cap', hc'⟩ := h.cr
  refine ⟨⟨cap, hs.cell hc h.d3⟩, ⟨cap', hs.cell hc' h.d3⟩, fun i hi => hs.cell (h.b i hi) h.d1, fun i hi => ?_, fun o => by simpa using h.fb o, fun o => by simpa using h.fr o, fun i hi => ?_, h.n1, h.n2, h.d1, h.d2, h.d3⟩
  · by_cases e : i = k
    · subst e
      simp only [Mm.setR, if_true]
      exact World.cell?_setCell_same _ _ _ (h.c i hi)
    · rw [World.cell?_setCell_other _ _ _ _ (by simp [Ne.symm e])]
      simp only [Mm.setR, if_neg e]
      exact h.c i hi
  · have := h.rR i hi
    simp only [Mm.setR]
    split <;> omega
set_option maxHeartbeats 1600000 in
set_option maxRecDepth 16384 in
theorem rfree_any {w : World} {r rb rr : Nat} {M : Mm} (h : RefAt w r rb rr M) (a : Int) :
    Calls Try.prog 71 #[.pointer (some ⟨r, 0, none⟩), .int .i64 a] w fun e w' => e = .returned (.int .i64 (if M.isUsed a then 0 else 10)) ∧ RefAt w' r rb rr (M.free a) ∧ Same (fun b => b = rb ∨ b = rr) w w' := by
  have hu := rused_any h a
  cases hx : M.isUsed a with
  | false =>
    rw [hx] at hu
    have hf : M.free a = M := by simp [Mm.free, hx]
    rw [hf]
    simp only [Bool.false_eq_true, if_false]
    clear hf hx
    go_enter Try.func71, Try.ntmps71
    go_wp2_with fail
    refine hu.mono ?_
    rintro e w1 ⟨rfl, rfl⟩
    go_wp2
    go_ret
    exact ⟨rfl, h, Same.refl _ _⟩
  | true =>
    rw [hx] at hu
    obtain ⟨k, rfl, hk, hR⟩ := Mm.used_iff hx
    have hf : M.free k = M.setR k (M.R k - 1) := by simp [Mm.free, hx]
    rw [hf]
    simp only [if_true]
    have hrR := h.rR k hk
    have hfin := (h.same0 ((Same.refl _ w).drew)).setR hk (v := M.R k - 1) (by omega)
    have HFIN := Lib.hid hfin
    obtain ⟨cr, hcr⟩ := h.cr
    have hc := h.c k hk
    have hfz := h.fr k
    have hki : (k : Int) < M.n := by omega
    have hn2 := h.n2
    clear hf hx hfin hR h
    go_enter Try.func71, Try.ntmps71
    go_wp2_with fail
    refine hu.mono ?_
    rintro e w1 ⟨rfl, rfl⟩
    have hwr : IntKind.i64.wrap (M.R k - 1) = M.R k - 1 := by rw [IntKind.wrap_i64]; omega
    go_wp2_with fail
    go_still_tail 14, (by kernel_rfl)
    go_wp2
    go_ret
    exact ⟨rfl, HFIN.out, ((Same.refl _ _).drew).setCell _ (.inr (.inr rfl))⟩
set_option maxHeartbeats 1600000 in
theorem rleft_any {w : World} {r rb rr : Nat} {M : Mm} (h : RefAt w r rb rr M) :
    Calls Try.prog 34 #[.pointer (some ⟨r, 0, none⟩)] w fun e w' => e = .returned (.int .i64 (nfree M.R M.n)) ∧ w = w' := by
  obtain ⟨cr, hcr⟩ := h.cr
  have hn2 := h.n2
  have H := Lib.hid h
  clear h
  go_enter Try.func34, Try.ntmps34
  go_wp2
  go_loop [3, 4] (fun v3 v4 => ∃ i : Nat, i ≤ M.n ∧ v4 = .int .i64 i ∧ v3 = .int .i64 (nfree M.R i)) (fun _ v4 => M.n - (intOf v4).toNat)
  case atStart => exact ⟨0, by omega, rfl, rfl⟩
  case round =>
    obtain ⟨i, hi, rfl, rfl⟩ := hrel
    have hnf := nfree_le M.R i
    by_cases hlt : i < M.n
    · have hc := H.out.c i hlt
      have hli : (i : Int) < M.n := by omega
      have hr0 := (H.out.rR i hlt).1
      have hsu : nfree M.R (i + 1) = nfree M.R i + if 0 < M.R i then 0 else 1 := rfl
      have HSU := Lib.hid hsu
      clear hsu
      by_cases hz : M.R i = 0
      · have hzb : (M.R i == 0) = true := by simpa using hz
        have HZ := Lib.hid hz
        clear hz
        go_wp2
        go_round
        case rel => exact ⟨i + 1, by omega, by go_num, by rw [HSU.out, if_neg (by rw [HZ.out]; omega)]; go_num⟩
        case measure => simp [intOf]; omega
      · have hzb : (M.R i == 0) = false := by simpa using hz
        have HZ := Lib.hid hz
        clear hz
        go_wp2
        go_round
        case rel => exact ⟨i + 1, by omega, by go_num, by rw [HSU.out, if_pos (by have := HZ.out; omega)]; rfl⟩
        case measure => simp [intOf]; omega
    · obtain rfl : i = M.n := by omega
      go_wp2
      go_ret
      exact ⟨rfl, rfl⟩
set_option maxHeartbeats 1600000 in
theorem rwalk_any {w : World} {r rb rr : Nat} {M : Mm} (h : RefAt w r rb rr M) (root page : Int) :
    Calls Try.prog 31 #[.pointer (some ⟨r, 0, none⟩), .int .i64 root, .int .i64 page] w fun e w' => e = .returned (.tuple #[.int .i64 (M.walk root page).1, .int .i64 (M.walk root page).2.1, .int .i64 (M.walk root page).2.2]) ∧ Same (fun _ => False) w w' := by
  have hrt := right_any h root page
  by_cases hc : M.check root page = 0
  · have hpg := Mm.check_range hc
    obtain ⟨p, rfl⟩ := Int.eq_ofNat_of_zero_le hpg.1
    have hw : M.walk root p = if (M.get root (p / 16)).1 = 0 then (0, 0, 30) else if (M.get (M.get root (p / 16)).2 (p % 16)).1 = 0 then (0, 0, 30)
        else ((M.get (M.get root (p / 16)).2 (p % 16)).2, (M.get (M.get root (p / 16)).2 (p % 16)).1, 0) := by
      simp only [Mm.walk, hc, ne_eq, not_true_eq_false, if_false, Int.toNat_natCast]
    obtain ⟨R, hR⟩ : ∃ R, R = M.walk root p := ⟨_, rfl⟩
    rw [← hR]
    rw [← hR] at hw
    rw [hc] at hrt
    have h16 : ((p : Int).tdiv 16) = ((p / 16 : Nat) : Int) := by rw [Int.tdiv_eq_ediv_of_nonneg (by omega)]; omega
    have hm16 : ((p : Int).tmod 16) = ((p % 16 : Nat) : Int) := by rw [Int.tmod_eq_emod_of_nonneg (by omega)]; omega
    have htop := rentry_any h root (p / 16) (by omega)
    have hlow := fun w' (hM : RefAt w' r rb rr M) (t : Int) => rentry_any hM t (p % 16) (by omega)
    rw [show ((p / 16 : Nat) : Int) = (p : Int) / 16 by omega] at htop
    rw [show ((p % 16 : Nat) : Int) = (p : Int) % 16 by omega] at hlow
    obtain ⟨⟨tf, tn⟩, hT⟩ : ∃ x, x = M.get root (p / 16) := ⟨_, rfl⟩
    rw [← hT] at hw htop
    obtain ⟨⟨lf, ln⟩, hL⟩ : ∃ x, x = M.get tn (p % 16) := ⟨_, rfl⟩
    simp only at hw
    rw [← hL] at hw
    have HW := Lib.hid hw
    have HT := Lib.hid htop
    have HL := Lib.hid @hlow
    have HLE := Lib.hid hL
    have hp256 : (p : Int) ≤ 255 := hpg.2
    clear hw htop hlow hL hT hR hc hpg h16 hm16
    by_cases htz : tf = 0
    · subst htz
      go_enter Try.func31, Try.ntmps31
      go_wp2_with fail
      refine hrt.mono ?_
      rintro e w1 ⟨rfl, rfl⟩
      go_wp2_with fail
      refine HT.out.mono ?_
      rintro e w2 ⟨rfl, hs2⟩
      go_wp2
      refine bodyPost_ret (results_tmp3 rfl _ _ _) rfl ⟨?_, hs2⟩
      have := HW.out
      rw [if_pos trivial] at this
      rw [this]; rfl
    · have htb : (tf == 0) = false := by simpa using htz
      have HTZ := Lib.hid htz
      clear htz
      by_cases hlz : lf = 0
      · subst hlz
        go_enter Try.func31, Try.ntmps31
        go_wp2_with fail
        refine hrt.mono ?_
        rintro e w1 ⟨rfl, rfl⟩
        go_wp2_with fail
        refine HT.out.mono ?_
        rintro e w2 ⟨rfl, hs2⟩
        go_wp2_with fail
        refine (HL.out _ (h.same0 hs2) tn).mono ?_
        rintro e w3 ⟨rfl, hs3⟩
        rw [← HLE.out]
        go_wp2
        refine bodyPost_ret (results_tmp3 rfl _ _ _) rfl ⟨?_, hs2.trans hs3⟩
        have := HW.out
        rw [if_neg HTZ.out, if_pos trivial] at this
        rw [this]; rfl
      · have hlb : (lf == 0) = false := by simpa using hlz
        have HLZ := Lib.hid hlz
        clear hlz
        go_enter Try.func31, Try.ntmps31
        go_wp2_with fail
        refine hrt.mono ?_
        rintro e w1 ⟨rfl, rfl⟩
        go_wp2_with fail
        refine HT.out.mono ?_
        rintro e w2 ⟨rfl, hs2⟩
        go_wp2_with fail
        refine (HL.out _ (h.same0 hs2) tn).mono ?_
        rintro e w3 ⟨rfl, hs3⟩
        rw [← HLE.out]
        go_wp2
        refine bodyPost_ret (results_tmp3 rfl _ _ _) rfl ⟨?_, hs2.trans hs3⟩
        have := HW.out
        rw [if_neg HTZ.out, if_neg HLZ.out] at this
        rw [this]; rfl
  · have hm : M.walk root page = (0, 0, M.check root page) := by simp [Mm.walk, hc]
    have hb : (M.check root page != 0) = true := by simpa using hc
    rw [hm]
    clear hm hc
    go_enter Try.func31, Try.ntmps31
    go_wp2_with fail
    refine hrt.mono ?_
    rintro e w1 ⟨rfl, rfl⟩
    go_wp2
    exact bodyPost_ret (results_tmp3 rfl _ _ _) rfl ⟨rfl, Same.refl _ _⟩
end Go.Proofs.Ytlbgnmcjdmdjpaa
