/- The walk of PtableFull. Conditions: the arguments' form. -/
import Derived.Test.YtlbgnmcjdmdjpaaApt
import Derived.Test.YtlbgnmcjdmdjpaaIs
namespace Go.Proofs.Ytlbgnmcjdmdjpaa
open Go.RowKit Go.Shelf
attribute [local go_sem] Oper.semAt_some

theorem Mm.Tree.check0 {M : Mm} {T : Nat → Option Nat} (h : M.Tree 0 T 1) : M.check 0 0 = 0 := by
  have := h.check 0
  rw [if_pos (by omega)] at this
  exact this
/-- What Full asks of a step. -/
theorem Mm.full_law {M : Mm} {T : Nat → Option Nat} (h : M.Tree 0 T 1) (p q K : Int) :
    ((M.map 0 p q K).2 ≠ 0 ∧ (M.map 0 p q K).1 = M) ∨ ((M.map 0 p q K).2 = 0 ∧ ((M.map 0 p q K).1.pages 0).length = (M.pages 0).length + 1) := by
  have := Mm.map_law h p q K
  rw [show ((0 : Nat) : Int) = 0 from rfl] at this
  rcases this with h1 | ⟨h1, x, rfl, hx, hK, h2, _, _, h3, h4⟩
  · exact .inl h1
  · right
    refine ⟨h1, ?_⟩
    have := Mm.pgL_more (M := M) (M' := (M.map 0 x q K).1) (r := 0) (p := x) h2 (by rw [h3]; exact hK) 256 (fun y hy hyx => h4 y hy hyx)
    rw [if_pos hx] at this
    exact this

set_option maxHeartbeats 3200000 in
set_option maxRecDepth 8192 in
theorem full_walk (w : World) (a : Option Addr) (len cap : Nat) (n : Int) (hlen : len ≤ maxLen) (hrows : ActsAt w a len) (hnil : a = none → len = 0) :
    Calls Try.prog 3 #[.slice a len cap, .int .i64 n] w fun e w' => e = .returned (.bool true) ∧ Same (fun _ => False) w w' := by
  unfold maxLen at hlen
  have HROWS := Lib.hid hrows
  have HNIL := Lib.hid hnil
  clear hrows hnil
  by_cases hn : n < 1 ∨ 8 < n
  · have hb : (decide (n < 1) || decide (8 < n)) = true := by simpa using hn
    clear hn
    go_enter Try.func3, Try.ntmps3
    go_wp2_with fail
    refine (shown2 _).mono ?_
    rintro e w1 ⟨rfl, hs1⟩
    go_wp2
    all_goals
      go_ret
      exact ⟨rfl, hs1⟩
  obtain ⟨m, rfl⟩ := Int.eq_ofNat_of_zero_le (show 0 ≤ n by omega)
  have hm1 : 1 ≤ m := by omega
  have hm8 : m ≤ 8 := by omega
  have hb1 : decide ((m : Int) < 1) = false := by simp; omega
  have hb2 : decide (8 < (m : Int)) = false := by simp; omega
  clear hn
  go_enter Try.func3, Try.ntmps3
  go_wp2_with fail
  refine (shown2 _).mono ?_
  rintro e w1 ⟨rfl, hs1⟩
  go_wp2_with fail
  refine (new_any _ m hm1 (by omega)).mono ?_
  rintro e w2 ⟨f, fb, rfl, hf, hfb, hM, hs2⟩
  go_wp2_with fail
  refine (root_any hM).mono ?_
  rintro e w3 (⟨hall, -, -, -⟩ | ⟨k, hk, hz, hbel, rfl, hMA, hs3⟩)
  · have := hall 0 hm1
    simp at this
  obtain rfl : k = 0 := by
    rcases Nat.eq_zero_or_pos k with h | h
    · exact h
    · have := hbel 0 h; simp at this
  clear hbel hz hk hM
  have hsz := hs1.size
  have hsw : Same (fun k => w.heap.size ≤ k) w w3 := ((hs1.trans hs2).mono (fun _ _ h => h.elim)).trans (hs3.mono (fun k _ h => by omega))
  have HT := Lib.hid (Mm.tree_new m hm1 (by omega))
  have HMA := Lib.hid hMA
  clear hMA hs1 hs2 hs3
  go_wp2
  go_loopw [10] (fun v10 wr => ∃ i : Nat, i ≤ len ∧ i ≤ 60 ∧ v10 = .int .i64 i ∧ ∃ M T, MemAt wr f fb M ∧ M.Tree 0 T 1 ∧ Same (fun k => w.heap.size ≤ k) w wr) (fun v10 _ => len - (intOf v10).toNat)
  case atStart => exact ⟨0, by omega, by omega, rfl, _, _, HMA.out, HT.out, hsw⟩
  case round =>
    obtain ⟨i, hi1, hi2, rfl, M, T, hMi, hTi, hsi⟩ := hrel
    by_cases hik : i < len ∧ i < 60
    · obtain ⟨hlt, hlt8⟩ := hik
      cases a with
      | none => exact absurd (HNIL.out rfl) (by omega)
      | some x =>
        obtain ⟨d, p, q, K, hact, hpp⟩ := HROWS.out.act rfl hlt
        have hblt := hact.lt
        have HTI := Lib.hid hTi
        have hmb := hMi.lt.2
        have hck := hTi.check0
        have hfull := Mm.full_law hTi p q K
        obtain ⟨T', hT', -⟩ := Mm.map_tree hTi p q K
        rw [show ((0 : Nat) : Int) = 0 from rfl] at hT'
        have hck' := hT'.check0
        have HT' := Lib.hid hT'
        have HFULL := Lib.hid hfull
        have HCK := Lib.hid hck
        have HCK' := Lib.hid hck'
        have HACT := Lib.hid hact
        clear hTi hck hfull hT' hck' hact
        go_wp2_with fail
        refine (pages_is hMi 0 HCK.out).mono ?_
        rintro e w4 ⟨ra, rcap, rfl, hI, hg, hs4⟩
        go_wp2_with fail
        refine (left_any (hMi.same0 hs4)).mono ?_
        rintro e w5 ⟨rfl, hs5⟩
        have hs6 := (hs4.trans hs5).drew
        have hs7 := hsi.trans (hs6.mono (fun _ _ h => h.elim))
        obtain ⟨c0, c1, c2, c3⟩ := HACT.out.kept hs7 (fun h => by omega)
        have hM5 := hMi.same0 hs6
        have hI5 := hI.same hs5.drew (fun _ _ h => h)
        have hz5 := hs6.size
        simp only [World.size_drew] at hz5
        have HI5 := Lib.hid hI5
        clear hI hs4 hs5 hI5 hMi HACT hs6
        go_wp2_with fail
        go_still_tail 17, (by kernel_rfl)
        go_wp2_with fail
        refine (map_any hM5 0 p q K hpp).mono ?_
        rintro e w6 ⟨rfl, hM6, hs8⟩
        have hI6 := HI5.out.same hs8 (fun g hgg h => by have := hg g hgg; omega)
        have hs9 : Same (fun k => w.heap.size ≤ k) w w6 := hs7.trans (hs8.mono (fun k _ h => by omega))
        obtain ⟨⟨M', er⟩, hX⟩ : ∃ x, x = M.map 0 p q K := ⟨_, rfl⟩
        have hck2 := HCK'.out
        have hT2 := HT'.out
        have hfull2 := HFULL.out
        rw [← hX] at hM6 hck2 hT2 hfull2 ⊢
        simp only at hM6 hck2 hT2 hfull2 ⊢
        have HI6 := Lib.hid hI6
        have HT2 := Lib.hid hT2
        have HF2 := Lib.hid hfull2
        have HCK2 := Lib.hid hck2
        clear hs7 c0 c1 c2 c3 hM5 HI5 hI6 hT2 hfull2 hck2 HT' HFULL HCK' HCK hX hs8
        go_wp2_with fail
        refine (pages_is hM6 0 HCK2.out).mono ?_
        rintro e w7 ⟨sa, scap, rfl, hJ, hg7, hs10⟩
        have hM7 := hM6.same0 hs10
        have hs11 := hs9.trans (hs10.mono (fun _ _ h => h.elim))
        have hI7 := HI6.out.same hs10 (fun _ _ h => h)
        rcases HF2.out with ⟨he, hMe⟩ | ⟨he, hl⟩
        · subst hMe
          have hb1 : (er != 0) = true := by simpa using he
          have hb2 : (er == 0) = false := by simpa using he
          have HE := Lib.hid he
          have HI7 := Lib.hid hI7
          have HJ := Lib.hid hJ
          clear he hI7 hJ hM6 hs9 HF2 hg hg7
          go_wp2_with fail
          refine (ints_same HI7.out HJ.out).mono ?_
          rintro e w8 ⟨rfl, hs12⟩
          go_wp2_with fail
          refine (left_any (hM7.same0 hs12)).mono ?_
          rintro e w9 ⟨rfl, hs13⟩
          have HM9 := Lib.hid ((hM7.same0 hs12).same0 hs13)
          have hs14 := (hs11.trans (hs12.mono (fun _ _ h => h.elim))).trans (hs13.mono (fun _ _ h => h.elim))
          clear hM7 hs11 hs12 hs13 hs10
          go_wp2
          go_round
          case rel => exact ⟨i + 1, by omega, by omega, by go_num, _, _, HM9.out, HT2.out, hs14⟩
          case measure => simp [intOf]; omega
        · subst he
          have hl2 : (((M'.pages 0).length : Int) != ((M.pages 0).length : Int) + 1) = false := by rw [hl]; simp
          have HM7 := Lib.hid hM7
          have hp1 := M.pages_len 0
          clear hI7 hJ hM6 hs9 HF2 hg hg7 hM7 hs10 hl
          go_wp2
          go_round
          case rel => exact ⟨i + 1, by omega, by omega, by go_num, _, _, HM7.out, HT2.out, hs11⟩
          case measure => simp [intOf]; omega
    · have hlt : i < len → 60 ≤ i := by omega
      have hs9 : Same (fun _ => False) w wr := hsi.mono (fun k h h' => by omega)
      clear hik hMi hTi hsi
      rcases Nat.lt_or_ge i len with hl | hl
      all_goals
        go_wp2
        go_ret
        exact ⟨rfl, hs9⟩
end Go.Proofs.Ytlbgnmcjdmdjpaa
