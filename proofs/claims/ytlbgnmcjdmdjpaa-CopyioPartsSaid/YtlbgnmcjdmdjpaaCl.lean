/- The walk of CopyioLess. Conditions: the arguments' form. -/
import Derived.Test.YtlbgnmcjdmdjpaaCpJ
import Derived.Test.YtlbgnmcjdmdjpaaOq
namespace Go.Proofs.Ytlbgnmcjdmdjpaa
open Go.RowKit Go.Shelf
attribute [local go_sem] Oper.semAt_some

theorem chk_pair {M : Mm} {root a n r w : Int} (h1 : ChkR M root a n false r) (h2 : ChkR M root a n true w) :
    (r = w ∧ (r = 10 ∨ r = 2 ∨ r = 30)) ∨ (r = 0 ∧ w = 30) ∨ (r = 0 ∧ w = 0) := by
  rcases h1 with ⟨u1, e1⟩ | ⟨u1, b1, e1⟩ | ⟨u1, b1, c1, d1, e1⟩ | ⟨u1, x, k, ha, hn, hk, hx, h1⟩
  · rcases h2 with ⟨u2, e2⟩ | ⟨u2, b2, e2⟩ | ⟨u2, b2, c2, d2, e2⟩ | ⟨u2, y, l, hb, hm, hl, hy, h2⟩ <;> first | omega | (exfalso; clear h2; omega) | (rw [u1] at u2; cases u2)
  · rcases h2 with ⟨u2, e2⟩ | ⟨u2, b2, e2⟩ | ⟨u2, b2, c2, d2, e2⟩ | ⟨u2, y, l, hb, hm, hl, hy, h2⟩ <;> first | omega | (exfalso; clear h2; omega) | (rw [u1] at u2; cases u2)
  · rcases h2 with ⟨u2, e2⟩ | ⟨u2, b2, e2⟩ | ⟨u2, b2, c2, d2, e2⟩ | ⟨u2, y, l, hb, hm, hl, hy, h2⟩ <;> first | omega | (exfalso; clear h2; omega) | (rw [u1] at u2; cases u2)
  · rcases h2 with ⟨u2, e2⟩ | ⟨u2, b2, e2⟩ | ⟨u2, b2, c2, d2, e2⟩ | ⟨u2, y, l, hb, hm, hl, hy, h2⟩
    · rw [u1] at u2; cases u2
    · omega
    · omega
    · obtain rfl : y = x := by omega
      obtain rfl : l = k := by omega
      rcases h1 with ⟨rfl, h1⟩ | ⟨rfl, i, hi1, hi2, hi⟩
      · rcases h2 with ⟨rfl, h2⟩ | ⟨rfl, _⟩
        · exact .inr (.inr ⟨rfl, rfl⟩)
        · exact .inr (.inl ⟨rfl, rfl⟩)
      · rcases h2 with ⟨rfl, h2⟩ | ⟨rfl, _⟩
        · exact absurd ⟨(h2 i hi1 hi2).1, fun h => by cases h⟩ hi
        · exact .inl ⟨rfl, .inr (.inr rfl)⟩
theorem chk_zero {M : Mm} {root a n : Int} {wr : Bool} (h : ChkR M root a n wr 0) : M.isUsed root = true ∧ 0 ≤ a ∧ 0 ≤ n ∧ n ≤ 4096 ∧ a + n ≤ 16384 ∧ ∀ i : Nat, a ≤ i → (i : Int) < a + n → M.okB root wr i := by
  rcases h with ⟨u1, e1⟩ | ⟨u1, b1, e1⟩ | ⟨u1, b1, c1, d1, e1⟩ | ⟨u1, x, k, rfl, rfl, hk, hx, h1⟩
  · omega
  · omega
  · omega
  · rcases h1 with ⟨-, h1⟩ | ⟨e, _⟩
    · exact ⟨u1, by omega, by omega, by omega, by omega, fun i h2 h3 => h1 i (by omega) (by omega)⟩
    · omega
theorem chk_sub {M : Mm} {root a n fr k er : Int} {wr : Bool} (h : ChkR M root a n wr 0) (hf : 0 ≤ fr) (hk : 0 ≤ k) (hs : fr + k ≤ n) (g : ChkR M root (a + fr) k wr er) : er = 0 := by
  obtain ⟨u, h0, h1, h2, h3, h4⟩ := chk_zero h
  rcases g with ⟨u1, e1⟩ | ⟨u1, b1, e1⟩ | ⟨u1, b1, c1, d1, e1⟩ | ⟨u1, x, l, hx, hl, hk, hx2, g⟩
  · rw [u] at u1; cases u1
  · omega
  · omega
  · rcases g with ⟨e, _⟩ | ⟨-, i, hi1, hi2, hi⟩
    · exact e
    · exact absurd (h4 i (by omega) (by omega)) hi

set_option maxHeartbeats 3200000 in
set_option maxRecDepth 8192 in
theorem less_walk (w : World) (a : Option Addr) (len cap : Nat) (b : Option Addr) (len2 cap2 : Nat) (gp : Nat → Int) (gb : Nat → Bool) (hlen : len ≤ 9223372036854775807) (hlen2 : len2 ≤ 9223372036854775807)
    (ha : ∀ i, i < len → ∃ x, a = some x ∧ w.cell? (x.add i) = some (.int .i64 (gp i))) (hb : ∀ i, i < len2 → ∃ x, b = some x ∧ w.cell? (x.add i) = some (.bool (gb i)))
    (addr n fr k : Int) (hia : In64 addr) (hin : In64 n) (hik : In64 k) :
    Calls Try.prog 12 #[.slice a len cap, .slice b len2 cap2, .int .i64 addr, .int .i64 n, .int .i64 fr, .int .i64 k] w fun e w' => e = .returned (.bool true) ∧ Same (fun _ => False) w w' := by
  go_enter Try.func12, Try.ntmps12
  go_wp2_with fail
  refine (shown3 _).mono ?_
  rintro e w1 ⟨rfl, hs1⟩
  go_wp2_with fail
  refine (laid_any _ a len cap b len2 cap2 gp gb hlen hlen2 (fun i hi => ?_) (fun i hi => ?_)).mono ?_
  · obtain ⟨x, hx, hc⟩ := ha i hi
    exact ⟨x, hx, hs1.cell hc (by simp)⟩
  · obtain ⟨x, hx, hc⟩ := hb i hi
    exact ⟨x, hx, hs1.cell hc (by simp)⟩
  rintro e w2 ⟨f, fb, r, rfl, hf, hfb, hM, -, hs2⟩
  have hs02 : Same (fun _ => False) w w2 := hs1.trans hs2
  generalize laidN _ _ = M at hM
  clear ha hb hlen hlen2 hs1 hs2 gp gb hf hfb
  by_cases g1 : fr < 0
  · go_wp2
    go_ret
    exact ⟨rfl, hs02⟩
  by_cases g2 : k < 0
  · go_wp2
    go_ret
    exact ⟨rfl, hs02⟩
  by_cases g3 : 4096 < fr
  · go_wp2
    go_ret
    exact ⟨rfl, hs02⟩
  by_cases g4 : 4096 < k
  · go_wp2
    go_ret
    exact ⟨rfl, hs02⟩
  by_cases g5 : n < fr + k
  · go_wp2
    go_ret
    exact ⟨rfl, hs02⟩
  have G5 := Lib.hid g5
  have CF := Lib.hid (check_c hM 0 addr n false hia hin)
  have hM' := hM
  go_wp2_with fail
  refine CF.out.mono ?_
  rintro e w3 ⟨er, rfl, h3, hs3⟩
  have hM3 := hM.same0 hs3
  have CT := Lib.hid (check_c hM3 0 addr n true hia hin)
  have H3 := Lib.hid h3
  have hs03 := hs02.trans hs3
  clear h3 hs3 hs02 hM' CF
  go_wp2_with fail
  refine CT.out.mono ?_
  rintro e w4 ⟨ew, rfl, h4, hs4⟩
  have hM4 := hM3.same0 hs4
  have hs04 := hs03.trans hs4
  rcases chk_pair H3.out h4 with ⟨rfl, h⟩ | ⟨rfl, rfl⟩ | ⟨rfl, rfl⟩
  · clear h4 hs4 hs03 CT H3 hM3 hM
    rcases h with rfl | rfl | rfl
    all_goals
      go_wp2
      go_ret
      exact ⟨rfl, hs04⟩
  · clear h4 hs4 hs03 CT hM3 hM
    obtain ⟨u, z0, z1, z2, z3, -⟩ := chk_zero H3.out
    have hsub := fun er (h : ChkR M 0 (addr + fr) k false er) => chk_sub H3.out (by omega) (by omega) (by have := G5.out; omega) h
    have HS := Lib.hid hsub
    have CS := Lib.hid (check_c hM4 0 (addr + fr) k false (by constructor <;> omega) hik)
    clear hsub H3
    go_wp2_with fail
    refine CS.out.mono ?_
    rintro e w5 ⟨er, rfl, h5, hs5⟩
    obtain rfl := HS.out _ h5
    have hs05 := hs04.trans hs5
    clear h5 hs5 HS CS hs04
    go_wp2
    go_ret
    exact ⟨rfl, hs05⟩
  · obtain ⟨u, z0, z1, z2, z3, -⟩ := chk_zero H3.out
    have hsub := fun er (h : ChkR M 0 (addr + fr) k false er) => chk_sub H3.out (by omega) (by omega) (by have := G5.out; omega) h
    have hsub2 := fun er (h : ChkR M 0 (addr + fr) k true er) => chk_sub h4 (by omega) (by omega) (by have := G5.out; omega) h
    have HS := Lib.hid hsub
    have HS2 := Lib.hid hsub2
    have hia2 : In64 (addr + fr) := by constructor <;> omega
    have CS := Lib.hid (check_c hM4 0 (addr + fr) k false hia2 hik)
    have HIA := Lib.hid hia2
    clear hsub hsub2 H3 h4 hs4 hs03 CT hM3 hM hia2
    go_wp2_with fail
    refine CS.out.mono ?_
    rintro e w5 ⟨er, rfl, h5, hs5⟩
    obtain rfl := HS.out _ h5
    have hs05 := hs04.trans hs5
    have hM5 := hM4.same0 hs5
    have CS2 := Lib.hid (check_c hM5 0 (addr + fr) k true HIA.out hik)
    clear h5 hs5 HS CS hs04 hM4
    go_wp2_with fail
    refine CS2.out.mono ?_
    rintro e w6 ⟨er, rfl, h6, hs6⟩
    obtain rfl := HS2.out _ h6
    have hs06 := hs05.trans hs6
    clear h6 hs6 HS2 CS2 hs05 hM5
    go_wp2
    go_ret
    exact ⟨rfl, hs06⟩
end Go.Proofs.Ytlbgnmcjdmdjpaa
