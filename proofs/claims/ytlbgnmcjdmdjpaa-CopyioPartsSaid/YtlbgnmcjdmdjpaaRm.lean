/- The reference's Map. Conditions: the memory's form, entries of no flags being empty. -/
import Derived.Test.YtlbgnmcjdmdjpaaRi
namespace Go.Proofs.Ytlbgnmcjdmdjpaa
open Go.RowKit Go.Shelf
attribute [local go_sem] Oper.semAt_some

/-- Entries without flags are empty, in the root and in its tables. -/
structure Mm.Clean (M : Mm) (root : Int) : Prop where
  top : ∀ i, i < 16 → (M.get root i).1 = 0 → M.get root i = (0, 0)
  low : ∀ i j, i < 16 → j < 16 → (M.get root i).1 ≠ 0 → (M.get (M.get root i).2 j).1 = 0 → M.get (M.get root i).2 j = (0, 0)
theorem Mm.Tree.clean {M : Mm} {r : Nat} {T : Nat → Option Nat} {cu : Nat} (h : M.Tree r T cu) : M.Clean r := by
  have hu : M.isUsed r = true := Mm.isUsed_nat h.rn (by rw [h.rR]; decide)
  have hg : ∀ i, M.get r i = M.ent r i := by intro i; simp [Mm.get, hu]
  refine ⟨fun i hi hz => ?_, fun i j hi hj hz h0 => ?_⟩
  · rw [hg] at hz ⊢
    cases hT : T i with
    | none => exact h.top0 i hi hT
    | some k => rw [h.top1 i k hT] at hz; simp at hz
  · rw [hg] at hz h0 ⊢
    cases hT : T i with
    | none => rw [h.top0 i hi hT] at hz; exact absurd rfl hz
    | some k =>
      rw [h.top1 i k hT] at h0 ⊢
      obtain ⟨a1, a2, a3, a4⟩ := h.tb i k hT
      have huk : M.isUsed k = true := Mm.isUsed_nat a2 (by rw [a4]; decide)
      have hgk : M.get k j = M.ent k j := by simp [Mm.get, huk]
      simp only at h0 ⊢
      rw [hgk] at h0 ⊢
      exact h.low i k j hT hj h0
/-- The new table is empty. -/
theorem Mm.new_empty {M : Mm} {root : Int} (hu : M.isUsed root = true) {k : Nat} (hz : M.R k ≤ 0) (i j fr : Nat) : ((M.alloc k).put root i 1 fr).get k j = (0, 0) := by
  obtain ⟨r, rfl, hr, hR⟩ := Mm.used_iff hu
  have hkr : k ≠ r := by intro e; subst e; omega
  unfold Mm.get
  split
  · rw [Int.toNat_natCast]
    have hB : ∀ o, ((M.alloc k).put r i 1 fr).B k o = 0 := by
      intro o
      rw [Mm.put_B _ _ _ _ _ _ _ hkr]
      simp [Mm.alloc]
    simp [Mm.ent, hB]
  · rfl

set_option maxHeartbeats 6400000 in
set_option maxRecDepth 16384 in
theorem rmap_any {w : World} {r rb rr : Nat} {M : Mm} (h : RefAt w r rb rr M) (root page frame flags : Int) (hcl : M.Clean root) :
    Calls Try.prog 30 #[.pointer (some ⟨r, 0, none⟩), .int .i64 root, .int .i64 page, .int .i64 frame, .int .i64 flags] w fun e w' => e = .returned (.int .i64 (M.map root page frame flags).2) ∧ RefAt w' r rb rr (M.map root page frame flags).1 ∧ Same (fun b => b = rb ∨ b = rr) w w' := by
  by_cases hc : M.check root page = 0
  · have hpg := Mm.check_range hc
    obtain ⟨p, rfl⟩ := Int.eq_ofNat_of_zero_le hpg.1
    have hu : M.isUsed root = true := by
      cases hu : M.isUsed root with
      | true => rfl
      | false => simp [Mm.check, hu] at hc
    by_cases hfr : 0 ≤ frame ∧ frame ≤ 255
    · obtain ⟨fr, rfl⟩ := Int.eq_ofNat_of_zero_le hfr.1
      by_cases hfl : flags = 1 ∨ flags = 3 ∨ flags = 5 ∨ flags = 7
      · obtain ⟨fl, rfl⟩ := Int.eq_ofNat_of_zero_le (show 0 ≤ flags by omega)
        have hm : M.map root p fr fl = if M.get root (p / 16) = (0, 0) then match M.least with
            | none => (M, 11)
            | some k => ((M.alloc k).put root (p / 16) 1 k).mapLow k (p % 16) fl fr
          else M.mapLow (M.get root (p / 16)).2 (p % 16) fl fr := by
          simp only [Mm.map, hc, ne_eq, not_true_eq_false, if_false, Int.toNat_natCast]; rw [if_neg (by omega)]; rfl
        obtain ⟨R, hRe⟩ : ∃ R, R = M.map root p fr fl := ⟨_, rfl⟩
        rw [← hRe]
        have HRE := Lib.hid (hRe.trans hm)
        clear hRe
        have h16 : ((p : Int).tdiv 16) = ((p / 16 : Nat) : Int) := by rw [Int.tdiv_eq_ediv_of_nonneg (by omega)]; omega
        have hm16 : ((p : Int).tmod 16) = ((p % 16 : Nat) : Int) := by rw [Int.tmod_eq_emod_of_nonneg (by omega)]; omega
        have hl : p / 16 < 16 := by omega
        have hl2 : p % 16 < 16 := by omega
        have c16 : ((p / 16 : Nat) : Int) = (p : Int) / 16 := by omega
        have cm16 : ((p % 16 : Nat) : Int) = (p : Int) % 16 := by omega
        have hd1 : decide ((fr : Int) < 0) = false := by simp
        have hd2 : decide (255 < (fr : Int)) = false := by simp; omega
        have hfr2 : fr < 65536 := by omega
        have hfl2 : fl < 256 := by omega
        have hbits : (((fl : Int) != 1) = false) ∨ (((fl : Int) != 1) = true ∧ ((fl : Int) != 3) = false) ∨ (((fl : Int) != 1) = true ∧ ((fl : Int) != 3) = true ∧ ((fl : Int) != 5) = false) ∨
            (((fl : Int) != 1) = true ∧ ((fl : Int) != 3) = true ∧ ((fl : Int) != 5) = true ∧ ((fl : Int) != 7) = false) := by
          rcases hfl with e | e | e | e <;> simp [e]
        have hrt := right_any h root p
        rw [hc] at hrt
        have hent := fun w' (M' : Mm) (hM : RefAt w' r rb rr M') (t : Int) => rentry_any hM t (p % 16) hl2
        have htop := fun w' (hM : RefAt w' r rb rr M) => rentry_any hM root (p / 16) hl
        have hput := fun w' (M' : Mm) (hM : RefAt w' r rb rr M') (t : Int) => rset_any hM t (p % 16) fl fr hl2 hfl2 hfr2
        have hputtop := fun w' (M' : Mm) (hM : RefAt w' r rb rr M') (k : Nat) (hk : k < 65536) => rset_any hM root (p / 16) 1 k hl (by omega) hk
        rw [cm16] at hent hput
        rw [c16] at htop hputtop
        have HENT := Lib.hid @hent
        have HTOP := Lib.hid @htop
        have HPUT := Lib.hid @hput
        have HPT := Lib.hid @hputtop
        have HRT := Lib.hid hrt
        have HC := Lib.hid hc
        have HU := Lib.hid hu
        have HCL := Lib.hid hcl
        have hp256 : (p : Int) ≤ 255 := hpg.2
        clear hent htop hput hputtop hrt hc hfr hfl c16 cm16 hm hpg hcl hu
        obtain ⟨⟨tf, tn⟩, hT⟩ : ∃ x, x = M.get root (p / 16) := ⟨_, rfl⟩
        have HT := Lib.hid hT
        clear hT
        rcases hbits with hb | ⟨hb, hb'⟩ | ⟨hb, hb', hb''⟩ | ⟨hb, hb', hb'', hb'''⟩
        all_goals
          go_enter Try.func30, Try.ntmps30
          go_wp2_with fail
          refine HRT.out.mono ?_
          rintro e w1 ⟨rfl, rfl⟩
          go_wp2_with fail
          refine (HTOP.out _ h).mono ?_
          rintro e w2 ⟨rfl, hs2⟩
          rw [← HT.out]
          have hM2 := h.same0 hs2
          simp only
          by_cases htz : tf = 0
          · subst htz
            have htn : tn = 0 := by
              have := HCL.out.top (p / 16) hl (by rw [← HT.out])
              rw [← HT.out] at this
              simpa using this
            subst htn
            go_wp2_with fail
            refine (ralloc_any hM2).mono ?_
            rintro e w3 (⟨hall, rfl, hM3, hs3⟩ | ⟨k, hk, hzk, hbel, rfl, hM3, hs3⟩)
            · go_wp2
              go_ret
              have hr2 := HRE.out
              rw [← HT.out, if_pos rfl, Mm.least_none hall] at hr2
              rw [hr2]
              exact ⟨rfl, hM3, (hs2.trans hs3).mono (fun _ _ h => h.elim)⟩
            · have hleast := Mm.least_some hk hzk hbel
              have hr2 := HRE.out
              rw [← HT.out, if_pos rfl, hleast] at hr2
              have hne := Mm.new_empty HU.out hzk (p / 16) (p % 16) k
              simp only [Mm.mapLow, hne, if_true] at hr2
              have HR2 := Lib.hid hr2
              have HNE := Lib.hid hne
              have hk256 : k < 65536 := by have := h.n2; omega
              clear hleast hbel hzk hr2 hne
              go_wp2_with fail
              refine (HPT.out _ _ hM3 k hk256).mono ?_
              rintro e w4 ⟨rfl, hM4, hs4⟩
              go_wp2_with fail
              refine (HENT.out _ _ hM4 k).mono ?_
              rintro e w5 ⟨rfl, hs5⟩
              rw [HNE.out]
              go_wp2_with fail
              refine (HPUT.out _ _ (hM4.same0 hs5) k).mono ?_
              rintro e w6 ⟨rfl, hM6, hs6⟩
              have hs7 := ((((hs2.mono (T := fun b => b = rb ∨ b = rr) (fun _ _ h => h.elim)).trans hs3).trans (hs4.mono (fun _ _ h => .inl h))).trans (hs5.mono (fun _ _ h => h.elim))).trans (hs6.mono (fun _ _ h => .inl h))
              clear hs2 hs3 hs4 hs5 hs6 hM4 hM3 hM2
              go_wp2
              go_ret
              rw [HR2.out]
              exact ⟨rfl, hM6, hs7⟩
          · have htb : (tf == 0) = false := by simpa using htz
            have hr2 := HRE.out
            rw [← HT.out, if_neg (by simp [htz])] at hr2
            have hlow := HCL.out.low (p / 16) (p % 16) hl hl2 (by rw [← HT.out]; exact htz)
            rw [← HT.out] at hlow
            simp only at hr2 hlow
            have HTZ := Lib.hid htz
            obtain ⟨⟨lf, ln⟩, hL⟩ : ∃ x, x = M.get tn (p % 16) := ⟨_, rfl⟩
            simp only [Mm.mapLow] at hr2
            rw [← hL] at hlow hr2
            have HL := Lib.hid hL
            have HR2 := Lib.hid hr2
            have HLOW := Lib.hid hlow
            clear htz hr2 hlow hL
            go_wp2_with fail
            refine (HENT.out _ _ hM2 tn).mono ?_
            rintro e w3 ⟨rfl, hs3⟩
            rw [← HL.out]
            have hM3 := hM2.same0 hs3
            have hs4 := hs2.trans hs3
            simp only
            by_cases hlz : lf = 0
            · subst hlz
              go_wp2_with fail
              refine (HPUT.out _ _ hM3 tn).mono ?_
              rintro e w4 ⟨rfl, hM4, hs5⟩
              go_wp2
              go_ret
              have hr3 := HR2.out
              rw [if_pos (HLOW.out (by trivial))] at hr3
              rw [hr3]
              exact ⟨rfl, hM4, (hs4.mono (fun _ _ h => h.elim)).trans (hs5.mono (fun _ _ h => .inl h))⟩
            · have hlb : (lf != 0) = true := by simpa using hlz
              have HLZ := Lib.hid hlz
              clear hlz
              go_wp2
              go_ret
              have hr3 := HR2.out
              rw [if_neg (by simp [HLZ.out])] at hr3
              rw [hr3]
              exact ⟨rfl, hM3, hs4.mono (fun _ _ h => h.elim)⟩
      · have hm : M.map root p fr flags = (M, 2) := by
          simp only [Mm.map, hc, ne_eq, not_true_eq_false, if_false]; rw [if_pos (by omega)]
        have hb1 : (flags != 1) = true := by simp; omega
        have hb2 : (flags != 3) = true := by simp; omega
        have hb3 : (flags != 5) = true := by simp; omega
        have hb4 : (flags != 7) = true := by simp; omega
        have hd1 : decide ((fr : Int) < 0) = false := by simp
        have hd2 : decide (255 < (fr : Int)) = false := by simp; omega
        have hrt := right_any h root p
        rw [hc] at hrt
        rw [hm]
        clear hm hc hfl hfr hpg
        go_enter Try.func30, Try.ntmps30
        go_wp2_with fail
        refine hrt.mono ?_
        rintro e w1 ⟨rfl, rfl⟩
        go_wp2
        go_ret
        exact ⟨rfl, h, Same.refl _ _⟩
    · have hm : M.map root p frame flags = (M, 2) := by
        simp only [Mm.map, hc, ne_eq, not_true_eq_false, if_false]; rw [if_pos (by omega)]
      have hb : (decide (frame < 0) || decide (255 < frame)) = true := by simp; omega
      have hrt := right_any h root p
      rw [hc] at hrt
      rw [hm]
      clear hm hc hfr hpg
      go_enter Try.func30, Try.ntmps30
      go_wp2_with fail
      refine hrt.mono ?_
      rintro e w1 ⟨rfl, rfl⟩
      go_wp2
      all_goals
        go_ret
        exact ⟨rfl, h, Same.refl _ _⟩
  · have hm : M.map root page frame flags = (M, M.check root page) := by simp [Mm.map, hc]
    have hb : (M.check root page != 0) = true := by simpa using hc
    have hrt := right_any h root page
    rw [hm]
    clear hm hc
    go_enter Try.func30, Try.ntmps30
    go_wp2_with fail
    refine hrt.mono ?_
    rintro e w1 ⟨rfl, rfl⟩
    go_wp2
    go_ret
    exact ⟨rfl, h, Same.refl _ _⟩
end Go.Proofs.Ytlbgnmcjdmdjpaa
