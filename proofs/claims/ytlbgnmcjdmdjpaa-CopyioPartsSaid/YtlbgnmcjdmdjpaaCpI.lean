/- The statements' own laying of pages. Conditions: the arguments' form. -/
import Derived.Test.YtlbgnmcjdmdjpaaCpH
import Derived.Test.YtlbgnmcjdmdjpaaRm
import Derived.Test.YtlbgnmcjdmdjpaaJ
namespace Go.Proofs.Ytlbgnmcjdmdjpaa
open Go.RowKit Go.Shelf
attribute [local go_sem] Oper.semAt_some

theorem results_four {fn : Func} {t u v x : Tmp} (h : fn.results = #[.tmp t, .tmp u, .tmp v, .tmp x]) (tmps : Array Value) (P : Program) (w : World) :
    (results fn tmps).run P w = .ok (.tuple #[tmps.getD t undef, tmps.getD u undef, tmps.getD v undef, tmps.getD x undef]) w := by
  simp [results, h, Sem.run_bind, Result.andThen]
theorem bits_in64 (op : BinOp) (a b : Int) : In64 (bits op .i64 a b) := by
  have := bits_within op .i64 a b
  unfold In64
  simp [IntKind.min, IntKind.max, IntKind.signed, IntKind.bits] at this
  omega

set_option maxHeartbeats 6400000 in
set_option maxRecDepth 16384 in
theorem laid_any (w : World) (a : Option Addr) (len cap : Nat) (b : Option Addr) (len2 cap2 : Nat) (gp : Nat → Int) (gb : Nat → Bool) (hlen : len ≤ 9223372036854775807) (hlen2 : len2 ≤ 9223372036854775807)
    (ha : ∀ i, i < len → ∃ x, a = some x ∧ w.cell? (x.add i) = some (.int .i64 (gp i))) (hb : ∀ i, i < len2 → ∃ x, b = some x ∧ w.cell? (x.add i) = some (.bool (gb i))) :
    Calls Try.prog 40 #[.slice a len cap, .slice b len2 cap2] w fun e w' => ∃ f fb r, e = .returned (.tuple #[.pointer (some ⟨f, 0, none⟩), .pointer (some ⟨r, 0, none⟩), .int .i64 0, .bool true]) ∧ w.heap.size ≤ f ∧ w.heap.size ≤ fb ∧
      MemAt w' f fb (laidN (fun i => (bits .and .i64 (gp i) 255, decide (i < len2) && gb i)) (min len 30)) ∧ (laidN (fun i => (bits .and .i64 (gp i) 255, decide (i < len2) && gb i)) (min len 30)).Laid (min len 30 + 1) ∧ Same (fun _ => False) w w' := by
  have HA := Lib.hid ha
  have HB := Lib.hid hb
  clear ha hb
  obtain ⟨G, hG⟩ : ∃ G : Nat → Int × Bool, G = fun i => (bits .and .i64 (gp i) 255, decide (i < len2) && gb i) := ⟨_, rfl⟩
  rw [← hG]
  have HG := Lib.hid hG
  clear hG
  go_enter Try.func40, Try.ntmps40
  go_wp2_with fail
  refine (new_any _ 60 (by omega) (by omega)).mono ?_
  rintro e w2 ⟨f, fb, rfl, hf, hfb, hM, hs2⟩
  have hlt2 := hM.lt
  have hsz2 := hs2.size
  go_wp2_with fail
  refine (rnew_any _ 60 (by omega) (by omega)).mono ?_
  rintro e w3 ⟨r, rb, rr, rfl, hr, hrb, hrr, hA, hs3⟩
  have hM3 := hM.same0 hs3
  go_wp2_with fail
  refine (root_any hM3).mono ?_
  rintro e w4 (⟨hall, -, -, -⟩ | ⟨k, hk, hz, hbel, rfl, hMA, hs4⟩)
  · have := hall 0 (by simp)
    simp at this
  obtain rfl : k = 0 := by
    rcases Nat.eq_zero_or_pos k with h | h
    · exact h
    · have := hbel 0 h; simp at this
  have hA4 := hA.same hs4 (by omega) (by omega) (by omega)
  clear hbel hz hk
  go_wp2_with fail
  refine (rroot_any hA4).mono ?_
  rintro e w5 (⟨hall, -, -, -⟩ | ⟨k, hk, hz, hbel, rfl, hA5, hs5⟩)
  · have := hall 0 (by simp)
    simp at this
  obtain rfl : k = 0 := by
    rcases Nat.eq_zero_or_pos k with h | h
    · exact h
    · have := hbel 0 h; simp at this
  have hM5 := hMA.same hs5 (by omega) (by omega)
  have hsw : Same (fun k => w.heap.size ≤ k) w w5 := (((hs2.trans hs3).mono (fun _ _ h => h.elim)).trans (hs4.mono (fun k _ h => by omega))).trans (hs5.mono (fun k _ h => by omega))
  have HM5 := Lib.hid hM5
  have HA5 := Lib.hid hA5
  clear hbel hz hk hM hA hM3 hA4 hMA hs2 hs3 hs4 hs5 hM5 hA5
  go_wp2
  go_loopw [16] (fun v16 wr => ∃ i : Nat, i ≤ len ∧ i ≤ 30 ∧ v16 = .int .i64 i ∧ MemAt wr f fb (laidN G i) ∧ RefAt wr r rb rr (laidN G i) ∧ (laidN G i).Laid (i + 1) ∧ Same (fun k => w.heap.size ≤ k) w wr) (fun v16 _ => len - (intOf v16).toNat)
  case atStart => exact ⟨0, by omega, by omega, rfl, HM5.out, HA5.out, Mm.Laid.zero, hsw⟩
  case round =>
    obtain ⟨i, hi1, hi2, rfl, hMi, hAi, hLi, hsi⟩ := hrel
    have hsu : laidN G (i + 1) = (laidN G i).lay (bits .and .i64 (gp i) 255) (decide (i < len2) && gb i) := by rw [laidN, HG.out]
    have hMi' := hMi
    have hLi' := hLi
    generalize laidN G i = M at hMi hAi hLi hsu
    by_cases hik : i < len ∧ i < 30
    · obtain ⟨hlt, hlt30⟩ := hik
      have hil : (i : Int) < len := by omega
      have hi30 : (i : Int) < 30 := by omega
      obtain ⟨x, hax, hcx⟩ := HA.out i hlt
      have hxl := World.block_lt_of_cell? _ _ hcx
      have c1 := hsi.cell hcx (fun h => by omega)
      have hroom := hLi.room (by omega)
      have HL := Lib.hid hLi
      have HSU := Lib.hid hsu
      have hltM := hMi.lt
      subst hax
      clear hcx hsu hLi
      go_wp2_with fail
      refine (alloc_any hMi).mono ?_
      rintro e w6 (⟨hall, -, -, -⟩ | ⟨k, hk, hz, hbel, rfl, hM6, hs6⟩)
      · exact absurd hall hroom
      have hA6 := hAi.same hs6 (by omega) (by omega) (by omega)
      have hleast := Mm.least_some hk hz hbel
      go_wp2_with fail
      refine (ralloc_any hA6).mono ?_
      rintro e w7 (⟨hall, -, -, -⟩ | ⟨k', hk', hz', hbel', rfl, hA7, hs7⟩)
      · exact absurd hall hroom
      obtain rfl : k = k' := by
        have := Mm.least_some hk' hz' hbel'
        rw [hleast] at this
        exact Option.some.inj this
      have hM7 := hM6.same hs7 (by omega) (by omega)
      have hs8 : Same (fun k => w.heap.size ≤ k) w w7 := (hsi.trans (hs6.mono (fun k _ h => by omega))).trans (hs7.mono (fun k _ h => by omega))
      have c7 := (hs6.cell c1 (fun h => by omega))
      have c7 := hs7.cell c7 (fun h => by omega)
      obtain ⟨T, ht, hd⟩ := HL.out.ex
      have hcl := (ht.alloc hk hz).clean
      rw [show ((0 : Nat) : Int) = 0 from rfl] at hcl
      have HCL := Lib.hid hcl
      have HLE := Lib.hid hleast
      have hk256 : k < 60 := by have := HL.out.n; omega
      clear hbel hz hbel' hz' hk' hcl ht hd hleast hroom hs6 hs7 hMi hAi hM6 hA6 c1 hk hsi
      obtain ⟨ro, hro⟩ : ∃ ro : Bool, ro = (decide (i < len2) && gb i) := ⟨_, rfl⟩
      have hstep := HL.out.step HLE.out (bits .and .i64 (gp i) 255) ro
      have hnext : laidN G (i + 1) = ((M.alloc k).map 0 (bits .and .i64 (gp i) 255) k (if ro then 1 else 3)).1 := by rw [HSU.out, ← hro]; exact hstep.2
      have hlaid : (laidN G (i + 1)).Laid (i + 1 + 1) := by rw [HSU.out, ← hro]; exact hstep.1
      have HN := Lib.hid hnext
      have HLN := Lib.hid hlaid
      obtain ⟨pg, hpg⟩ : ∃ pg, pg = bits .and .i64 (gp i) 255 := ⟨_, rfl⟩
      have hpin : In64 pg := by rw [hpg]; exact bits_in64 _ _ _
      have HP := Lib.hid hpg
      clear hstep hnext hlaid hpg
      have fin : ∀ (fl er : Int) (w9 : World), fl = (if ro then 1 else 3) → MemAt w9 f fb ((M.alloc k).map 0 pg k fl).1 → RefAt w9 r rb rr ((M.alloc k).map 0 pg k fl).1 → Same (fun k => w.heap.size ≤ k) w7 w9 →
          Hid (MemAt w9 f fb (laidN G (i + 1)) ∧ RefAt w9 r rb rr (laidN G (i + 1)) ∧ Same (fun k => w.heap.size ≤ k) w w9) := by
        intro fl er w9 hfl h1 h2 h3
        rw [hfl, HP.out, ← HN.out] at h1 h2
        exact Lib.hid ⟨h1, h2, hs8.trans h3⟩
      have HFIN := Lib.hid @fin
      clear fin
      by_cases hl2 : i < len2
      · obtain ⟨y, hby, hcy⟩ := HB.out i hl2
        have hyl := World.block_lt_of_cell? _ _ hcy
        have c8 := hs8.cell hcy (fun h => by omega)
        subst hby
        have hil2 : (i : Int) < len2 := by omega
        have hrg : ro = gb i := by rw [hro]; simp [hl2]
        clear hcy hro
        cases hgb : gb i with
        | true =>
          rw [hgb] at c8 hrg
          subst hrg
          clear hgb
          have hbp := HP.out.symm
          go_wp2_with fail
          refine (map_any hM7 0 pg k 1 hpin).mono ?_
          rintro e w8 ⟨rfl, hM8, hs9⟩
          have hA8 := hA7.same hs9 (by omega) (by omega) (by omega)
          have c9 := hs9.cell c7 (fun h => by omega)
          go_wp2_with fail
          refine (rmap_any hA8 0 pg k 1 HCL.out).mono ?_
          rintro e w9 ⟨rfl, hA9, hs10⟩
          have HF := HFIN.out 1 0 w9 rfl (hM8.same hs10 (by omega) (by omega)) hA9 ((hs9.mono (T := fun k => w.heap.size ≤ k) (fun k _ h => by omega)).trans (hs10.mono (fun k _ h => by omega)))
          generalize ((M.alloc k).map 0 pg k 1).2 = er
          clear hM8 hA8 hA9 hs9 hs10 c8 c9 c7 hM7 hA7 HFIN hbp hs8
          go_wp2
          go_round
          case rel => exact ⟨i + 1, by omega, by omega, by go_num, HF.out.1, HF.out.2.1, HLN.out, HF.out.2.2⟩
          case measure => simp [intOf]; omega
        | false =>
          rw [hgb] at c8 hrg
          subst hrg
          clear hgb
          have hbp := HP.out.symm
          go_wp2_with fail
          refine (map_any hM7 0 pg k 3 hpin).mono ?_
          rintro e w8 ⟨rfl, hM8, hs9⟩
          have hA8 := hA7.same hs9 (by omega) (by omega) (by omega)
          have c9 := hs9.cell c7 (fun h => by omega)
          go_wp2_with fail
          refine (rmap_any hA8 0 pg k 3 HCL.out).mono ?_
          rintro e w9 ⟨rfl, hA9, hs10⟩
          have HF := HFIN.out 3 0 w9 rfl (hM8.same hs10 (by omega) (by omega)) hA9 ((hs9.mono (T := fun k => w.heap.size ≤ k) (fun k _ h => by omega)).trans (hs10.mono (fun k _ h => by omega)))
          generalize ((M.alloc k).map 0 pg k 3).2 = er
          clear hM8 hA8 hA9 hs9 hs10 c8 c9 c7 hM7 hA7 HFIN hbp hs8
          go_wp2
          go_round
          case rel => exact ⟨i + 1, by omega, by omega, by go_num, HF.out.1, HF.out.2.1, HLN.out, HF.out.2.2⟩
          case measure => simp [intOf]; omega
      · have hil2 : decide ((i : Int) < len2) = false := by simp; omega
        have hrg : ro = false := by rw [hro]; simp [hl2]
        subst hrg
        clear hro
        have hbp := HP.out.symm
        go_wp2_with fail
        refine (map_any hM7 0 pg k 3 hpin).mono ?_
        rintro e w8 ⟨rfl, hM8, hs9⟩
        have hA8 := hA7.same hs9 (by omega) (by omega) (by omega)
        have c9 := hs9.cell c7 (fun h => by omega)
        go_wp2_with fail
        refine (rmap_any hA8 0 pg k 3 HCL.out).mono ?_
        rintro e w9 ⟨rfl, hA9, hs10⟩
        have HF := HFIN.out 3 0 w9 rfl (hM8.same hs10 (by omega) (by omega)) hA9 ((hs9.mono (T := fun k => w.heap.size ≤ k) (fun k _ h => by omega)).trans (hs10.mono (fun k _ h => by omega)))
        generalize ((M.alloc k).map 0 pg k 3).2 = er
        clear hM8 hA8 hA9 hs9 hs10 c9 c7 hM7 hA7 HFIN hbp hs8
        go_wp2
        go_round
        case rel => exact ⟨i + 1, by omega, by omega, by go_num, HF.out.1, HF.out.2.1, HLN.out, HF.out.2.2⟩
        case measure => simp [intOf]; omega
    · have hmin : i = min len 30 := by omega
      have hs9 : Same (fun _ => False) w wr := hsi.mono (fun k h h' => by omega)
      have hfin : MemAt wr f fb (laidN G (min len 30)) ∧ (laidN G (min len 30)).Laid (min len 30 + 1) := by
        rw [← hmin]
        exact ⟨hMi', hLi'⟩
      have HF := Lib.hid hfin
      have hlt : i < len → 30 ≤ i := by omega
      have hwf : w.heap.size ≤ f ∧ w.heap.size ≤ fb := ⟨by omega, by omega⟩
      clear hik hMi hAi hLi hsu hfin hMi' hLi' hmin hsi
      rcases Nat.lt_or_ge i len with hl | hl
      all_goals
        go_wp2
        refine bodyPost_ret (results_four rfl _ _ _) rfl ?_
        exact ⟨f, fb, r, rfl, hwf.1, hwf.2, HF.out.1, HF.out.2, hs9⟩
end Go.Proofs.Ytlbgnmcjdmdjpaa
