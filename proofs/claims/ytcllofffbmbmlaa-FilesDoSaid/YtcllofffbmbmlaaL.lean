import Derived.Test.YtcllofffbmbmlaaK
namespace Go.Proofs.Ytcllofffbmbmlaa
open Go.RowKit Go.Shelf
attribute [local go_sem] Oper.semAt_some

/-- Descriptors lo, lo+1, .., hi-1 of somebody, of one file. -/
def seg (p : Int) (b : Nat) (K T : Int) (lo : Nat) : Nat → List Ent
  | 0 => []
  | h + 1 => if lo ≤ h then ⟨p, h, b, K, T⟩ :: seg p b K T lo h else []
theorem ent_seg (p : Int) (b : Nat) (K T : Int) (lo hi : Nat) (q : Nat) : ent (seg p b K T lo hi) p q = if lo ≤ q ∧ q < hi then some ⟨p, q, b, K, T⟩ else none := by
  induction hi with
  | zero => rw [if_neg (by omega)]; rfl
  | succ h ih =>
    simp only [seg]
    by_cases hl : lo ≤ h
    · rw [if_pos hl, ent_cons, ih]
      by_cases e : h = q
      · subst e; simp [hl]
      · have e1 : ¬ ((h : Int) = q) := by omega
        rw [if_neg (by simp [e1])]
        by_cases h2 : lo ≤ q ∧ q < h
        · rw [if_pos h2, if_pos (by omega)]
        · rw [if_neg h2, if_neg (by omega)]
    · rw [if_neg hl, if_neg (by omega)]; rfl
theorem length_seg (p : Int) (b : Nat) (K T : Int) (lo hi : Nat) : (seg p b K T lo hi).length = hi - lo := by
  induction hi with
  | zero => simp [seg]
  | succ h ih =>
    simp only [seg]
    split
    · simp only [List.length_cons, ih]; omega
    · simp; omega
theorem refs_seg (p : Int) (b : Nat) (K T : Int) (lo hi : Nat) : refs (seg p b K T lo hi) b = hi - lo := by
  induction hi with
  | zero => simp [seg, refs]
  | succ h ih =>
    simp only [seg]
    split
    · rw [refs_cons, ih]; simp; omega
    · simp [refs]; omega
theorem mem_seg {p : Int} {b : Nat} {K T : Int} {lo hi : Nat} {e : Ent} (h : e ∈ seg p b K T lo hi) : ∃ q, e = ⟨p, q, b, K, T⟩ ∧ lo ≤ q ∧ q < hi := by
  induction hi with
  | zero => simp [seg] at h
  | succ k ih =>
    simp only [seg] at h
    split at h
    · rcases List.mem_cons.1 h with rfl | h
      · exact ⟨k, rfl, by omega, by omega⟩
      · obtain ⟨q, h1, h2, h3⟩ := ih h; exact ⟨q, h1, h2, by omega⟩
    · simp at h
theorem del_seg (p : Int) (b : Nat) (K T : Int) (lo hi : Nat) : del (seg p b K T lo hi) p lo = seg p b K T (lo + 1) hi := by
  induction hi with
  | zero => simp [seg, del]
  | succ h ih =>
    simp only [seg]
    by_cases hl : lo ≤ h
    · rw [if_pos hl]
      unfold del at *
      by_cases e : lo = h
      · subst e
        rw [if_neg (by omega), List.filter_cons, if_neg (by simp)]
        have : seg p b K T lo lo = [] := List.eq_nil_of_length_eq_zero (by rw [length_seg]; omega)
        rw [this]; rfl
      · rw [if_pos (by omega), List.filter_cons, if_pos (by simp; omega), ih]
    · rw [if_neg hl, if_neg (by omega)]; rfl
theorem cnt_seg (p : Int) (b : Nat) (K T : Int) (lo hi : Nat) : cnt (seg p b K T lo hi) = if lo < hi then 1 else 0 := by
  induction hi with
  | zero => simp [seg, cnt]
  | succ h ih =>
    simp only [seg]
    by_cases hl : lo ≤ h
    · rw [if_pos hl]
      simp only [cnt, ih, refs_seg]
      by_cases h2 : lo < h
      · rw [if_pos h2, if_neg (by omega), if_pos (by omega)]
      · rw [if_neg h2, if_pos (by omega), if_pos (by omega)]
    · rw [if_neg hl, if_neg (by omega)]; rfl

/-- What one holds of old cells behind steps on a Files. -/
theorem cell_own {w w' : World} {m : Nat} (hs : Same (Own w m) w w') {a : Addr} {v : Value} (hc : w.cell? a = some v) (ha : a.block < m) : w'.cell? a = some v :=
  hs.cell hc (fun h => by have := h.1; omega)

set_option maxHeartbeats 3200000 in
theorem dups_walk (w : World) (kd th n : Int) : Calls Try.prog 3 #[.agg #[.int .i64 kd, .int .i64 th], .int .i64 n] w fun e w' => e = .returned (.bool true) ∧ Same (fun _ => False) w w' := by
  by_cases hn : n < 0 ∨ 10 < n
  · have hb : (decide (n < 0) || decide (10 < n)) = true := by simpa using hn
    clear hn
    go_enter Try.func3, Try.ntmps3
    go_wp2_with fail
    refine (shown_any _).mono ?_
    rintro e w1 ⟨rfl, hs1⟩
    go_wp2
    all_goals
      go_ret
      exact ⟨rfl, (same_alloc _).trans hs1⟩
  · obtain ⟨k, rfl⟩ := Int.eq_ofNat_of_zero_le (by omega : 0 ≤ n)
    have hk : k ≤ 10 := by omega
    clear hn
    go_enter Try.func3, Try.ntmps3
    go_wp2_with fail
    refine (shown_any _).mono ?_
    rintro e w1 ⟨rfl, hs1⟩
    have p0 : w1.cell? ⟨w.heap.size, 0, none⟩ = some (.int .i64 kd) := hs1.cell (by simp) (by simp)
    have p1 : w1.cell? ⟨w.heap.size, 1, none⟩ = some (.int .i64 th) := hs1.cell (by simp) (by simp)
    have l1 : w.heap.size < w1.heap.size := World.block_lt_of_cell? _ _ p1
    go_wp2_with fail
    refine (new_any _).mono ?_
    rintro e w2 ⟨f, m, rfl, hR2, hs2, hm2⟩
    have q0 := hs2.cell p0 (by simp)
    have q1 := hs2.cell p1 (by simp)
    go_wp2_with fail
    refine (open_any hR2 3 kd th (by simp [cnt])).mono ?_
    rintro e w3 ⟨L3, r, er, rfl, hO, al3, hR3, hs3⟩
    have hs02 : Same (fun _ => False) w w2 := ((same_alloc _).trans hs1).trans hs2
    have hsz2 := hs02.size
    cases hO with
    | arg h =>
      go_wp2_with fail
      refine (count_any hR3).mono ?_
      rintro e w4 ⟨rfl, rfl⟩
      go_wp2
      go_ret
      exact ⟨by simp [cnt], hs02.trans' hs3 (fun b hb hbw => by have := hb.1; omega)⟩
    | fds _ _ _ h => exact absurd rfl (h 0 (by omega))
    | files k _ _ _ _ _ h => simp [cnt] at h
    | ok j b _ hK hT hj h1 h2 _ hb =>
      obtain rfl : j = 0 := by
        rcases Nat.eq_zero_or_pos j with h | h
        · exact h
        · exact absurd rfl (h2 0 h)
      have hR : Rep w3 f m (seg 3 b kd th 0 1) al3 := hR3
      have r0 := cell_own hs3 q0 (by simp only; omega)
      have r1 := cell_own hs3 q1 (by simp only; omega)
      simp only [Int.natCast_zero]
      have HR := Lib.hid hR
      clear hR hR3 h1 h2 hb
      go_wp2
      go_loopw [9, 10, 11] (fun v9 v10 v11 wr => ∃ i : Nat, 1 ≤ i ∧ i ≤ k + 1 ∧ v9 = .int .i64 i ∧ ∃ al, Rep wr f m (seg 3 b kd th 0 (min i 8)) al ∧ Same (Own w2 m) w2 wr) (fun v9 _ _ _ => k + 1 - (intOf v9).toNat)
      case atStart => exact ⟨1, by omega, by omega, rfl, al3, HR.out, hs3⟩
      case round =>
        obtain ⟨i, hi1, hi2, rfl, al, hRi, hsi⟩ := hrel
        by_cases hik : i ≤ k
        · go_wp2_with fail
          refine (dup_any hRi 3 0 (by rw [length_seg]; omega)).mono ?_
          rintro e w4 ⟨L4, r, er, rfl, hO, al4, hR4, hs4⟩
          have hs5 := own_trans hsi hs4
          by_cases hi8 : i < 8
          · obtain ⟨rfl, rfl, rfl⟩ := hO.ok_of (e := ⟨3, 0, b, kd, th⟩) (by decide) (by have := ent_seg 3 b kd th 0 (min i 8) 0; rw [if_pos (by omega)] at this; exact this) i hi8 (by rw [ent_seg, if_neg (by omega)]) (fun j hj => by rw [ent_seg, if_pos (by omega)]; simp)
            have hR5 : Rep w4 f m (seg 3 b kd th 0 (min (i + 1) 8)) al4 := by
              have e1 : min (i + 1) 8 = min i 8 + 1 := by omega
              have e2 : min i 8 = i := by omega
              rw [e1, seg, if_pos (by omega), e2]
              rw [e2] at hR4
              exact hR4
            have HR5 := Lib.hid hR5
            clear hR5 hR4 hRi
            go_wp2
            go_roundw
            case rel => exact ⟨i + 1, by omega, by omega, by go_num, al4, HR5.out, hs5⟩
            case measure => simp [intOf]; omega
          · have e8 : min i 8 = 8 := by omega
            have hO' : L4 = seg 3 b kd th 0 (min i 8) ∧ r = 0 ∧ er = 81 := by
              cases hO with
              | err er h1 h2 =>
                have := ent_seg 3 b kd th 0 (min i 8) 0
                rw [if_pos (by omega)] at this
                simp only [fnd] at h2
                rw [if_neg (by omega)] at h2
                rw [show ((0 : Nat) : Int) = 0 from rfl] at this
                rw [this] at h2; cases h2
              | fds => exact ⟨rfl, rfl, rfl⟩
              | ok e q _ _ hq h2 _ => rw [ent_seg, if_pos (by omega)] at h2; cases h2
            obtain ⟨rfl, rfl, rfl⟩ := hO'
            have hR5 : Rep w4 f m (seg 3 b kd th 0 (min (i + 1) 8)) al4 := by
              rw [show min (i + 1) 8 = min i 8 by omega]; exact hR4
            have HR5 := Lib.hid hR5
            clear hR5 hR4 hRi e8
            go_wp2
            go_roundw
            case rel => exact ⟨i + 1, by omega, by omega, by go_num, al4, HR5.out, hs5⟩
            case measure => simp [intOf]; omega
        · obtain rfl : i = k + 1 := by omega
          by_cases h7 : k ≤ 7
          · have hRj : Rep wr f m (seg 3 b kd th 0 (k + 1)) al := by rw [show k + 1 = min (k + 1) 8 by omega]; exact hRi
            have hcb : decide ((k : Int) ≤ 7) = true := by simp; omega
            have HRi := Lib.hid hRj
            clear hRi hRj
            go_wp2
            go_loopw [13, 14, 15, 16] (fun v13 v14 v15 v16 wx => ∃ i : Nat, i ≤ k + 1 ∧ v13 = .int .i64 i ∧ ∃ al, Rep wx f m (seg 3 b kd th i (k + 1)) al ∧ Same (Own w2 m) w2 wx) (fun v13 _ _ _ _ => k + 1 - (intOf v13).toNat)
            case atStart => exact ⟨0, by omega, rfl, al, HRi.out, hsi⟩
            case round =>
              obtain ⟨i, hi2, rfl, alx, hRx, hsx⟩ := hrel
              by_cases hik : i ≤ k
              · go_wp2_with fail
                refine (close_any hRx 3 i (by rw [length_seg]; omega)).mono ?_
                rintro e w4 ⟨L4, K', T', g, er, rfl, hO, hR4, hs4⟩
                have hs5 := own_trans hsx hs4
                obtain ⟨rfl, rfl, rfl, rfl, rfl⟩ := hO.ok_of (by decide) (e := ⟨3, i, b, kd, th⟩) (by rw [ent_seg, if_pos (by omega)])
                rw [del_seg] at hR4
                have hgz : decide (refs (del (seg 3 b kd th i (k + 1)) 3 i) b = 0) = decide ((i : Int) = (k : Int)) := by
                  rw [del_seg, refs_seg]
                  rw [decide_eq_decide]; omega
                simp only [hgz]
                have y0 := cell_own hs5 q0 (by simp only; omega)
                have y1 := cell_own hs5 q1 (by simp only; omega)
                have hlt4 : w.heap.size < w4.heap.size := World.block_lt_of_cell? _ _ y0
                have HR4 := Lib.hid (hR4.same0 (same_alloc (.cells #[.int .i64 kd, .int .i64 th] 23)))
                clear hR4 hRx hgz
                by_cases hie : (i : Int) = (k : Int)
                · have hd : decide ((i : Int) = (k : Int)) = true := decide_eq_true hie
                  have hd2 : ((i : Int) == (k : Int)) = true := by rw [beq_iff_eq]; exact hie
                  have HIE := Lib.hid hie
                  clear hie
                  simp only [hd]
                  go_wp2
                  exact ⟨⟨i + 1, by omega, by go_num, alx, HR4.out, own_trans hs5 (own_of (same_alloc _))⟩, by simp [intOf]; omega⟩
                · have hd : decide ((i : Int) = (k : Int)) = false := decide_eq_false hie
                  have hd2 : ((i : Int) == (k : Int)) = false := by rw [beq_eq_false_iff_ne]; exact hie
                  clear hie
                  simp only [hd]
                  go_wp2
                  exact ⟨⟨i + 1, by omega, by go_num, alx, HR4.out, own_trans hs5 (own_of (same_alloc _))⟩, by simp [intOf]; omega⟩
              · obtain rfl : i = k + 1 := by omega
                go_wp2_with fail
                refine (count_any hRx).mono ?_
                rintro e w4 ⟨rfl, rfl⟩
                have hc : cnt (seg 3 b kd th (k + 1) (k + 1)) = 0 := by rw [cnt_seg, if_neg (by omega)]
                simp only [hc]
                go_wp2
                go_ret
                exact ⟨rfl, hs02.trans' hsx (fun b hb hbw => by have := hb.1; omega)⟩
          · have hRj : Rep wr f m (seg 3 b kd th 0 (7 + 1)) al := by rw [show 7 + 1 = min (k + 1) 8 by omega]; exact hRi
            have hcb : decide ((k : Int) ≤ 7) = false := by simp; omega
            have HRi := Lib.hid hRj
            clear hRi hRj
            go_wp2
            go_loopw [13, 14, 15, 16] (fun v13 v14 v15 v16 wx => ∃ i : Nat, i ≤ 7 + 1 ∧ v13 = .int .i64 i ∧ ∃ al, Rep wx f m (seg 3 b kd th i (7 + 1)) al ∧ Same (Own w2 m) w2 wx) (fun v13 _ _ _ _ => 7 + 1 - (intOf v13).toNat)
            case atStart => exact ⟨0, by omega, rfl, al, HRi.out, hsi⟩
            case round =>
              obtain ⟨i, hi2, rfl, alx, hRx, hsx⟩ := hrel
              by_cases hik : i ≤ 7
              · go_wp2_with fail
                refine (close_any hRx 3 i (by rw [length_seg]; omega)).mono ?_
                rintro e w4 ⟨L4, K', T', g, er, rfl, hO, hR4, hs4⟩
                have hs5 := own_trans hsx hs4
                obtain ⟨rfl, rfl, rfl, rfl, rfl⟩ := hO.ok_of (by decide) (e := ⟨3, i, b, kd, th⟩) (by rw [ent_seg, if_pos (by omega)])
                rw [del_seg] at hR4
                have hgz : decide (refs (del (seg 3 b kd th i (7 + 1)) 3 i) b = 0) = decide ((i : Int) = 7) := by
                  rw [del_seg, refs_seg]
                  rw [decide_eq_decide]; omega
                simp only [hgz]
                have y0 := cell_own hs5 q0 (by simp only; omega)
                have y1 := cell_own hs5 q1 (by simp only; omega)
                have hlt4 : w.heap.size < w4.heap.size := World.block_lt_of_cell? _ _ y0
                have HR4 := Lib.hid (hR4.same0 (same_alloc (.cells #[.int .i64 kd, .int .i64 th] 23)))
                clear hR4 hRx hgz
                by_cases hie : (i : Int) = 7
                · have hd : decide ((i : Int) = 7) = true := decide_eq_true hie
                  have hd2 : ((i : Int) == 7) = true := by rw [beq_iff_eq]; exact hie
                  have HIE := Lib.hid hie
                  clear hie
                  simp only [hd]
                  go_wp2
                  exact ⟨⟨i + 1, by omega, by go_num, alx, HR4.out, own_trans hs5 (own_of (same_alloc _))⟩, by simp [intOf]; omega⟩
                · have hd : decide ((i : Int) = 7) = false := decide_eq_false hie
                  have hd2 : ((i : Int) == 7) = false := by rw [beq_eq_false_iff_ne]; exact hie
                  clear hie
                  simp only [hd]
                  go_wp2
                  exact ⟨⟨i + 1, by omega, by go_num, alx, HR4.out, own_trans hs5 (own_of (same_alloc _))⟩, by simp [intOf]; omega⟩
              · obtain rfl : i = 7 + 1 := by omega
                go_wp2_with fail
                refine (count_any hRx).mono ?_
                rintro e w4 ⟨rfl, rfl⟩
                have hc : cnt (seg 3 b kd th (7 + 1) (7 + 1)) = 0 := by rw [cnt_seg, if_neg (by omega)]
                simp only [hc]
                go_wp2
                go_ret
                exact ⟨rfl, hs02.trans' hsx (fun b hb hbw => by have := hb.1; omega)⟩
end Go.Proofs.Ytcllofffbmbmlaa
