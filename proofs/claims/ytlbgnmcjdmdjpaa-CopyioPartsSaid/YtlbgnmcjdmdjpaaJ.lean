import Derived.Test.YtlbgnmcjdmdjpaaI
namespace Go.Proofs.Ytlbgnmcjdmdjpaa
open Go.RowKit Go.Shelf
attribute [local go_sem] Oper.semAt_some

/-- The least frame that nobody has. -/
def Mm.least (M : Mm) : Option Nat := (List.range M.n).find? fun i => decide (M.R i ≤ 0)
theorem Mm.least_none {M : Mm} (h : ∀ i, i < M.n → 0 < M.R i) : M.least = none := by
  unfold Mm.least
  rw [List.find?_eq_none]
  intro x hx
  have := h x (List.mem_range.1 hx)
  simp; omega
theorem Mm.least_some {M : Mm} {k : Nat} (hk : k < M.n) (hz : M.R k ≤ 0) (h : ∀ i, i < k → 0 < M.R i) : M.least = some k := by
  unfold Mm.least
  rw [List.find?_range_eq_some]
  refine ⟨by simpa using hz, List.mem_range.2 hk, fun j hj => ?_⟩
  have := h j hj
  simp; omega
/-- What Map does to a root's entry or to a table's. -/
def Mm.mapLow (M : Mm) (t : Int) (i fl fr : Nat) : Mm × Int := if M.get t i = (0, 0) then (M.put t i fl fr, 0) else (M, 20)
def Mm.map (M : Mm) (root page frame flags : Int) : Mm × Int :=
  if M.check root page ≠ 0 then (M, M.check root page)
  else if ¬ ((0 ≤ frame ∧ frame ≤ 255) ∧ (0 ≤ flags ∧ flags ≤ 7) ∧ flags % 2 = 1) then (M, 2)
  else if M.get root (page.toNat / 16) = (0, 0) then match M.least with
    | none => (M, 11)
    | some k => ((M.alloc k).put root (page.toNat / 16) 1 k).mapLow k (page.toNat % 16) flags.toNat frame.toNat
  else M.mapLow (M.get root (page.toNat / 16)).2 (page.toNat % 16) flags.toNat frame.toNat

theorem map_nil (w : World) (root page frame flags : Int) : Calls Try.prog 24 #[.pointer none, .int .i64 root, .int .i64 page, .int .i64 frame, .int .i64 flags] w fun e w' => e = .returned (.int .i64 1) ∧ w = w' := by
  go_enter Try.func24, Try.ntmps24
  go_wp2_with fail
  refine (check_nil _ root page).mono ?_
  rintro e w' ⟨rfl, rfl⟩
  go_wp2
  go_ret
  exact ⟨rfl, rfl⟩

set_option maxHeartbeats 3200000 in
set_option maxRecDepth 8192 in
theorem map_any {w : World} {f fb : Nat} {M : Mm} (h : MemAt w f fb M) (root page frame flags : Int) (hp : In64 page) :
    Calls Try.prog 24 #[.pointer (some ⟨f, 0, none⟩), .int .i64 root, .int .i64 page, .int .i64 frame, .int .i64 flags] w fun e w' => e = .returned (.int .i64 (M.map root page frame flags).2) ∧ MemAt w' f fb (M.map root page frame flags).1 ∧ Same (· = fb) w w' := by
  by_cases hc : M.check root page = 0
  · by_cases hfr : 0 ≤ frame ∧ frame ≤ 255
    · by_cases hfl : 0 ≤ flags ∧ flags ≤ 7
      · have hfa : (bits .and .i64 flags 1 == 0) = decide (flags % 2 = 0) := by
          obtain ⟨n, rfl⟩ := Int.eq_ofNat_of_zero_le hfl.1
          have hn : n < 8 := by omega
          match n, hn with
          | 0, _ => decide
          | 1, _ => decide
          | 2, _ => decide
          | 3, _ => decide
          | 4, _ => decide
          | 5, _ => decide
          | 6, _ => decide
          | 7, _ => decide
        by_cases hodd : flags % 2 = 1
        · have hpg : 0 ≤ page ∧ page ≤ 255 := by
            unfold Mm.check at hc
            split at hc
            · split at hc
              · assumption
              · omega
            · omega
          obtain ⟨p, rfl⟩ := Int.eq_ofNat_of_zero_le hpg.1
          obtain ⟨fr, rfl⟩ := Int.eq_ofNat_of_zero_le hfr.1
          obtain ⟨fl, rfl⟩ := Int.eq_ofNat_of_zero_le hfl.1
          have hm : M.map root p fr fl = if M.get root (p / 16) = (0, 0) then match M.least with
              | none => (M, 11)
              | some k => ((M.alloc k).put root (p / 16) 1 k).mapLow k (p % 16) fl fr
            else M.mapLow (M.get root (p / 16)).2 (p % 16) fl fr := by
            simp only [Mm.map, hc, ne_eq, not_true_eq_false, if_false, Int.toNat_natCast]; rw [if_neg (by omega)]
          obtain ⟨R, hRe⟩ : ∃ R, R = M.map root p fr fl := ⟨_, rfl⟩
          rw [← hRe]
          have HRE := Lib.hid (hRe.trans hm)
          clear hRe
          have h16 : ((p : Int).tdiv 16) = ((p / 16 : Nat) : Int) := by rw [Int.tdiv_eq_ediv_of_nonneg (by omega)]; omega
          have hm16 : ((p : Int).tmod 16) = ((p % 16 : Nat) : Int) := by rw [Int.tmod_eq_emod_of_nonneg (by omega)]; omega
          have hl : p / 16 < 16 := by omega
          have hl2 : p % 16 < 16 := by omega
          have c16 : ((p / 16 : Nat) : Int) = (p : Int) / 16 := by omega
          have cm16 : ((p % 16 : Nat) : Int) = (p : Int) % 16 := by omega
          have hd1 : decide (0 ≤ (fr : Int) ∧ (fr : Int) ≤ 255) = true := decide_eq_true hfr
          have hd2 : decide (0 ≤ (fl : Int) ∧ (fl : Int) ≤ 7) = true := decide_eq_true hfl
          have hd3 : (bits .and .i64 fl 1 == 0) = false := by rw [hfa]; simp; omega
          have hfr2 : fr < 65536 := by omega
          have hfl2 : fl < 256 := by omega
          have hlow := fun w' (M' : Mm) (hM : MemAt w' f fb M') (t : Int) => get_any hM t (p % 16) hl2
          have htop := fun w' (hM : MemAt w' f fb M) => get_any hM root (p / 16) hl
          have hputlow := fun w' (M' : Mm) (hM : MemAt w' f fb M') (t : Int) => put_any hM t (p % 16) fl fr hl2 hfl2 hfr2
          have hputtop := fun w' (M' : Mm) (hM : MemAt w' f fb M') (k : Nat) (hk : k < 65536) => put_any hM root (p / 16) 1 k hl (by omega) hk
          rw [cm16] at hlow hputlow hm16
          rw [c16] at htop hputtop h16
          have HLOW := Lib.hid @hlow
          have HTOP := Lib.hid @htop
          have HPL := Lib.hid @hputlow
          have HPT := Lib.hid @hputtop
          have HC := Lib.hid hc
          have HPP := Lib.hid hpg
          clear hlow htop hputlow hputtop hc hpg hfr hfl hfa hodd c16 cm16 hm
          obtain ⟨⟨tf, tn⟩, hT⟩ : ∃ x, x = M.get root (p / 16) := ⟨_, rfl⟩
          have HT := Lib.hid hT
          clear hT
          go_enter Try.func24, Try.ntmps24
          go_wp2_with fail
          refine (check_any h root p).mono ?_
          rintro e w1 ⟨rfl, hs1⟩
          rw [HC.out]
          go_wp2_with fail
          refine (inside1 _ _ 255 fr (by simp)).mono ?_
          rintro e w2 ⟨rfl, hs2⟩
          rw [hd1]
          go_wp2_with fail
          refine (inside1 _ _ 7 fl (by simp)).mono ?_
          rintro e w3 ⟨rfl, hs3⟩
          rw [hd2]
          have hs4 := ((((hs1.alloc _).trans hs2).alloc _).trans hs3)
          clear hs1 hs2 hs3
          go_wp2_with fail
          refine (of_any _ p hp).mono ?_
          rintro e w5 ⟨rfl, hs5⟩
          rw [h16, hm16]
          have hz5 := (hs4.trans hs5).size
          have hs6 := (hs4.trans hs5).alloc (.cells #[.int .i64 ((p : Int) / 16), .int .i64 ((p : Int) % 16)] 114)
          clear hs4 hs5
          go_wp2_with fail
          refine (HTOP.out _ (h.same0 hs6)).mono ?_
          rintro e w7 ⟨rfl, hs7⟩
          rw [← HT.out]
          have g0 := hs7.cell (a := ⟨w5.heap.size, 0, none⟩) (v := .int .i64 ((p : Int) / 16)) (by simp) (by simp)
          have g1 := hs7.cell (a := ⟨w5.heap.size, 1, none⟩) (v := .int .i64 ((p : Int) % 16)) (by simp) (by simp)
          have hz7 := World.block_lt_of_cell? _ _ g0
          have hs8 := hs6.trans hs7
          clear hs6 hs7
          by_cases htz : tf = 0 ∧ tn = 0
          · obtain ⟨rfl, rfl⟩ := htz
            have hM8 := h.same0 (hs8.alloc (.cells #[.int .i64 0, .int .i64 0] 108) |>.alloc (.cells #[.int .i64 0, .int .i64 0] 108))
            have hs9 := (hs8.alloc (.cells #[.int .i64 0, .int .i64 0] 108)).alloc (.cells #[.int .i64 0, .int .i64 0] 108)
            have hltfb := h.lt.2
            have hn2 := h.n2
            have hszw := hs8.size
            go_wp2_with fail
            refine (alloc_any hM8).mono ?_
            rintro e w9 (⟨hall, rfl, hM9, hsA⟩ | ⟨k, hk, hzk, hbel, rfl, hM9, hsA⟩)
            · go_wp2
              go_ret
              have hr2 := HRE.out
              rw [← HT.out, if_pos rfl, Mm.least_none hall] at hr2
              rw [hr2]
              exact ⟨rfl, hM9, (hs9.trans hsA).mono (fun _ _ h => h.elim)⟩
            · have hleast := Mm.least_some hk hzk hbel
              have HLE := Lib.hid hleast
              clear hleast hbel hzk
              have hsA' : Same (· = fb) w7 w9 := (((same_alloc _).alloc _).mono (fun _ _ h => h.elim)).trans hsA
              have m0 := hsA'.cell g0 (by simp; omega)
              have m1 := hsA'.cell g1 (by simp; omega)
              obtain ⟨m2, m3, z2, z3, m4⟩ := new2 ((((same_alloc _).mono (fun _ _ h => h.elim)).trans hsA : Same (· = fb) (w7.alloc _) w9)) (by omega)
              have hsB := (hs9.mono (T := (· = fb)) (fun _ _ h => h.elim)).trans hsA
              clear hs8 hs9 hsA hsA' g0 g1 hM8
              have q1 : Same (fun b => b = w7.heap.size) w9 ((w9.setCell ⟨w7.heap.size, 0, none⟩ (.int .i64 1)).setCell ⟨w7.heap.size, 1, none⟩ (.int .i64 k)) := ((Same.refl (fun b => b = w7.heap.size) w9).setCell (a := ⟨w7.heap.size, 0, none⟩) _ (.inr rfl)).setCell (a := ⟨w7.heap.size, 1, none⟩) _ (.inr rfl)
              have hlf := h.lt.1
              have hMA := hM9.same q1 (by omega) (by omega)
              have n0 := q1.cell m0 (by simp; omega)
              have n1 := q1.cell m1 (by simp; omega)
              have n2 : ((w9.setCell ⟨w7.heap.size, 0, none⟩ (.int .i64 1)).setCell ⟨w7.heap.size, 1, none⟩ (.int .i64 k)).cell? ⟨w7.heap.size, 0, none⟩ = some (.int .i64 1) := cell_ne (World.cell?_setCell_same _ _ _ m2) (by simp)
              have n3 : ((w9.setCell ⟨w7.heap.size, 0, none⟩ (.int .i64 1)).setCell ⟨w7.heap.size, 1, none⟩ (.int .i64 k)).cell? ⟨w7.heap.size, 1, none⟩ = some (.int .i64 k) := World.cell?_setCell_same _ _ _ (cell_ne m3 (by simp))
              have hsC := hsB.trans' q1 (S := (· = fb)) (fun b hb hbw => by omega)
              go_wp2_with fail
              refine (HPT.out _ _ hMA k (by have : (M.alloc k).n = M.n := rfl; omega)).mono ?_
              rintro e wB ⟨rfl, hMB, hsD⟩
              have o0 := hsD.cell n0 (by simp; omega)
              have o1 := hsD.cell n1 (by simp; omega)
              have o2 := hsD.cell n2 (by simp; omega)
              have o3 := hsD.cell n3 (by simp; omega)
              have hsE := hsC.trans hsD
              clear m0 m1 m2 m3 z2 z3 n0 n1 n2 n3 hsC hsD hsB q1 hM9 hMA
              obtain ⟨M2, hM2⟩ : ∃ M2, M2 = (M.alloc k).put root (p / 16) 1 k := ⟨_, rfl⟩
              rw [← hM2] at hMB
              obtain ⟨⟨lf, ln⟩, hL⟩ : ∃ x, x = M2.get k (p % 16) := ⟨_, rfl⟩
              have hr2 := HRE.out
              rw [← HT.out, if_pos rfl, HLE.out] at hr2
              simp only at hr2
              rw [← hM2] at hr2
              have HR2 := Lib.hid hr2
              have HL := Lib.hid hL
              clear hr2 hL hM2
              go_wp2_with fail
              refine (HLOW.out _ M2 hMB k).mono ?_
              rintro e wC ⟨rfl, hsF⟩
              rw [← HL.out]
              have s0 := hsF.cell o0 (by simp)
              have s1 := hsF.cell o1 (by simp)
              have s2 := hsF.cell o2 (by simp)
              have s3 := hsF.cell o3 (by simp)
              have hMC := hMB.same0 hsF
              have hsG := hsE.trans (hsF.mono (fun _ _ h => h.elim))
              clear o0 o1 o2 o3 hsE hsF hMB
              by_cases hlz : lf = 0 ∧ ln = 0
              · obtain ⟨rfl, rfl⟩ := hlz
                go_wp2_with fail
                refine (HPL.out _ M2 hMC k).mono ?_
                rintro e wD ⟨rfl, hMD, hsH⟩
                go_wp2
                go_ret
                have hr : M2.mapLow k (p % 16) fl fr = (M2.put k (p % 16) fl fr, 0) := by unfold Mm.mapLow; rw [← HL.out, if_pos rfl]
                rw [HR2.out, hr]
                exact ⟨rfl, hMD, hsG.trans hsH⟩
              · have hor : (lf == 0) = false ∨ (lf = 0 ∧ (ln == 0) = false) := by
                  by_cases h0 : lf = 0
                  · exact .inr ⟨h0, by rw [beq_eq_false_iff_ne]; omega⟩
                  · exact .inl (by rw [beq_eq_false_iff_ne]; exact h0)
                have hln0 : ¬ ((lf, ln) = ((0, 0) : Int × Int)) := by simp; omega
                have HLN := Lib.hid hln0
                clear hlz hln0
                rcases hor with hlb | ⟨rfl, hlb⟩
                all_goals
                  go_wp2
                  go_ret
                  have hr : M2.mapLow k (p % 16) fl fr = (M2, 20) := by unfold Mm.mapLow; rw [← HL.out, if_neg HLN.out]
                  rw [HR2.out, hr]
                  exact ⟨rfl, hMC, hsG⟩
          · have hM8 := h.same0 (hs8.alloc (.cells #[.int .i64 tf, .int .i64 tn] 108) |>.alloc (.cells #[.int .i64 0, .int .i64 0] 108))
            have hs9 := (hs8.alloc (.cells #[.int .i64 tf, .int .i64 tn] 108)).alloc (.cells #[.int .i64 0, .int .i64 0] 108)
            have hne0 : ¬ ((tf, tn) = ((0, 0) : Int × Int)) := by simp; omega
            have HNE := Lib.hid hne0
            have hor : (tf == 0) = false ∨ (tf = 0 ∧ (tn == 0) = false) := by
              by_cases h0 : tf = 0
              · exact .inr ⟨h0, by rw [beq_eq_false_iff_ne]; omega⟩
              · exact .inl (by rw [beq_eq_false_iff_ne]; exact h0)
            clear htz hne0
            rcases hor with htb | ⟨rfl, htb⟩
            all_goals
              go_wp2_with fail
              refine (HLOW.out _ M hM8 tn).mono ?_
              rintro e w9 ⟨rfl, hsA⟩
              obtain ⟨⟨lf, ln⟩, hL⟩ : ∃ x, x = M.get tn (p % 16) := ⟨_, rfl⟩
              have HL := Lib.hid hL
              rw [← hL]
              clear hL
              by_cases hlz : lf = 0 ∧ ln = 0
              · obtain ⟨rfl, rfl⟩ := hlz
                have hMA := hM8.same0 hsA
                have m0 := (((same_alloc _).alloc _).trans hsA).cell g0 (by simp)
                have m1 := (((same_alloc _).alloc _).trans hsA).cell g1 (by simp)
                obtain ⟨m2, m3, -, -, m4⟩ := new2 ((same_alloc _).trans hsA) (by simp)
                have hsB := hs9.trans hsA
                clear hs8 hs9 hsA g0 g1 hM8
                go_wp2_with fail
                refine (HPL.out _ M hMA tn).mono ?_
                rintro e wB ⟨rfl, hMB, hsC⟩
                go_wp2
                go_ret
                have hr : M.mapLow tn (p % 16) fl fr = (M.put tn (p % 16) fl fr, 0) := by unfold Mm.mapLow; rw [← HL.out, if_pos rfl]
                have hr2 := HRE.out
                rw [← HT.out, if_neg HNE.out] at hr2
                rw [hr2, hr]
                exact ⟨rfl, hMB, (hsB.mono (fun _ _ h => h.elim)).trans hsC⟩
              · have hor : (lf == 0) = false ∨ (lf = 0 ∧ (ln == 0) = false) := by
                  by_cases h0 : lf = 0
                  · exact .inr ⟨h0, by rw [beq_eq_false_iff_ne]; omega⟩
                  · exact .inl (by rw [beq_eq_false_iff_ne]; exact h0)
                have hln0 : ¬ ((lf, ln) = ((0, 0) : Int × Int)) := by simp; omega
                have HLN := Lib.hid hln0
                clear hlz hln0
                have hMA := hM8.same0 hsA
                have hsB := hs9.trans hsA
                rcases hor with hlb | ⟨rfl, hlb⟩
                all_goals
                  go_wp2
                  go_ret
                  have hr : M.mapLow tn (p % 16) fl fr = (M, 20) := by unfold Mm.mapLow; rw [← HL.out, if_neg HLN.out]
                  have hr2 := HRE.out
                  rw [← HT.out, if_neg HNE.out] at hr2
                  rw [hr2, hr]
                  exact ⟨rfl, hMA, hsB.mono (fun _ _ h => h.elim)⟩
        · have hm : M.map root page frame flags = (M, 2) := by simp only [Mm.map, hc, ne_eq, not_true_eq_false, if_false]; rw [if_pos (by omega)]
          rw [hm]
          have hd1 : decide (0 ≤ frame ∧ frame ≤ 255) = true := decide_eq_true hfr
          have hd2 : decide (0 ≤ flags ∧ flags ≤ 7) = true := decide_eq_true hfl
          have hd3 : (bits .and .i64 flags 1 == 0) = true := by rw [hfa]; simp; omega
          clear hfa
          go_enter Try.func24, Try.ntmps24
          go_wp2_with fail
          refine (check_any h root page).mono ?_
          rintro e w1 ⟨rfl, hs1⟩
          rw [hc]
          go_wp2_with fail
          refine (inside1 _ _ 255 frame (by simp)).mono ?_
          rintro e w2 ⟨rfl, hs2⟩
          rw [hd1]
          go_wp2_with fail
          refine (inside1 _ _ 7 flags (by simp)).mono ?_
          rintro e w3 ⟨rfl, hs3⟩
          rw [hd2]
          go_wp2
          go_ret
          have hs := ((((hs1.alloc _).trans hs2).alloc _).trans hs3)
          exact ⟨rfl, h.same0 hs, hs.mono (fun _ _ h => h.elim)⟩
      · have hm : M.map root page frame flags = (M, 2) := by simp only [Mm.map, hc, ne_eq, not_true_eq_false, if_false]; rw [if_pos (by omega)]
        rw [hm]
        have hd1 : decide (0 ≤ frame ∧ frame ≤ 255) = true := decide_eq_true hfr
        have hd2 : decide (0 ≤ flags ∧ flags ≤ 7) = false := decide_eq_false hfl
        clear hfl
        go_enter Try.func24, Try.ntmps24
        go_wp2_with fail
        refine (check_any h root page).mono ?_
        rintro e w1 ⟨rfl, hs1⟩
        rw [hc]
        go_wp2_with fail
        refine (inside1 _ _ 255 frame (by simp)).mono ?_
        rintro e w2 ⟨rfl, hs2⟩
        rw [hd1]
        go_wp2_with fail
        refine (inside1 _ _ 7 flags (by simp)).mono ?_
        rintro e w3 ⟨rfl, hs3⟩
        rw [hd2]
        go_wp2
        go_ret
        have hs := ((((hs1.alloc _).trans hs2).alloc _).trans hs3)
        exact ⟨rfl, h.same0 hs, hs.mono (fun _ _ h => h.elim)⟩
    · have hm : M.map root page frame flags = (M, 2) := by simp only [Mm.map, hc, ne_eq, not_true_eq_false, if_false]; rw [if_pos (by omega)]
      rw [hm]
      have hd1 : decide (0 ≤ frame ∧ frame ≤ 255) = false := decide_eq_false hfr
      clear hfr
      go_enter Try.func24, Try.ntmps24
      go_wp2_with fail
      refine (check_any h root page).mono ?_
      rintro e w1 ⟨rfl, hs1⟩
      rw [hc]
      go_wp2_with fail
      refine (inside1 _ _ 255 frame (by simp)).mono ?_
      rintro e w2 ⟨rfl, hs2⟩
      rw [hd1]
      go_wp2
      go_ret
      have hs := ((hs1.alloc _).trans hs2)
      exact ⟨rfl, h.same0 hs, hs.mono (fun _ _ h => h.elim)⟩
  · have hm : M.map root page frame flags = (M, M.check root page) := by simp only [Mm.map, ne_eq, hc, not_false_eq_true, if_true]
    have hb : (M.check root page == 0) = false := by simpa using hc
    rw [hm]
    clear hm hc
    go_enter Try.func24, Try.ntmps24
    go_wp2_with fail
    refine (check_any h root page).mono ?_
    rintro e w1 ⟨rfl, hs1⟩
    go_wp2
    go_ret
    exact ⟨rfl, h.same0 hs1, hs1.mono (fun _ _ h => h.elim)⟩
end Go.Proofs.Ytlbgnmcjdmdjpaa
