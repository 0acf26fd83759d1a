/- files: FilesDo's walk. Conditions: the arguments' form. -/
import Derived.Test.YtcllofffbmbmlaaRx
import Derived.Test.YtcllofffbmbmlaaRy
import Derived.Test.YtcllofffbmbmlaaO
namespace Go.Proofs.Ytcllofffbmbmlaa
open Go.RowKit Go.Shelf
attribute [local go_sem] Oper.semAt_some

theorem did_any {B s f m r c : Nat} {w : World} {L : List Ent} {R : List Fr} {last : Nat} {al : List (Int × Value)} {ao : Option Addr} {cap : Nat} (h : Rep w f m L al) (hR : RAt s w r ao cap R last) (he : Eqv L R last c) (hc : c < 100) (hm : B ≤ m) (hs : B ≤ s) (d p q K T : Int) :
    Calls Try.prog 19 #[.pointer (some ⟨f, 0, none⟩), .pointer (some ⟨r, 0, none⟩), .agg #[.int .i64 d, .int .i64 p, .int .i64 q, .int .i64 K, .int .i64 T]] w (DidQ B s f m r c w) := by
  rcases (by omega : (d % 8 = 0 ∨ d % 8 = 1 ∨ d % 8 = 2) ∨ d % 8 = 3 ∨ d % 8 = 4 ∨ d % 8 = 5 ∨ d % 8 = 6 ∨ d % 8 = 7) with hd | hd | hd | hd | hd | hd
  · exact did_open h hR he hc hm hs d p q K T hd
  · exact did_dup h hR he hc hm hs d p q K T hd
  · exact did_close h hR he hc hm hs d p q K T hd
  · exact did_get h hR he hc hm hs d p q K T hd
  · exact did_fork h hR he hc hm hs d p q K T hd
  · exact did_drop h hR he hc hm hs d p q K T hd
/-- Both, behind so many acts. -/
def StQ (B s f m r i : Nat) (w W : World) : Prop := ∃ L R last, (∃ al, Rep W f m L al) ∧ (∃ ao cap, RAt s W r ao cap R last) ∧ Eqv L R last i ∧ Same (B ≤ ·) w W
theorem StQ.zero {B s f m r i : Nat} {w W W' : World} (h : StQ B s f m r i w W) (hs : Same (fun _ => False) W W') : StQ B s f m r i w W' := by
  obtain ⟨L, R, last, ⟨al, h1⟩, ⟨ao, cap, h2⟩, h3, h4⟩ := h
  exact ⟨L, R, last, ⟨al, h1.same0 hs⟩, ⟨ao, cap, h2.same0 hs⟩, h3, h4.trans (hs.mono (fun _ _ h => h.elim))⟩
theorem getV_two (L : List Ent) (p q : Int) : ∃ K1 T1 e1, getV L p q = (.agg #[.int .i64 K1, .int .i64 T1], e1) := by
  unfold getV
  split
  · exact ⟨_, _, _, rfl⟩
  · split
    · exact ⟨_, _, _, rfl⟩
    · exact ⟨_, _, _, rfl⟩
theorem RAt.fresh {w : World} : RAt w.heap.size (w.alloc (.cells #[.slice none 0 0, .int .i64 0] 51)) w.heap.size none 0 [] 0 :=
  ⟨by simp, by simp, by simp, by simp, World.ownsRow_nil _ _ _ _, shape_alloc2 w _ _ 51, Nat.le_refl _, by simp, by omega⟩
set_option maxHeartbeats 6400000 in
set_option maxRecDepth 16384 in
theorem do_walk (w : World) (a : Option Addr) (len cap : Nat) (hlen : len ≤ maxLen) (hrows : ActsAt w a len) (hnil : a = none → len = 0) :
    Calls Try.prog 6 #[.slice a len cap] w fun e w' => e = .returned (.bool true) ∧ Same (fun _ => False) w w' := by
  unfold maxLen at hlen
  have HROWS := Lib.hid hrows
  have HNIL := Lib.hid hnil
  clear hrows hnil
  go_enter Try.func6, Try.ntmps6
  go_wp2_with fail
  refine (shown_any _).mono ?_
  rintro e w1 ⟨rfl, hs1⟩
  go_wp2_with fail
  refine (new_any _).mono ?_
  rintro e w2 ⟨f, m, rfl, hR2, hs2, hm2⟩
  have hsz1 := hs1.size
  have hsz2 := hs2.size
  have hs02 : Same (fun _ => False) w w2 := hs1.trans hs2
  have ST0 := Lib.hid (show StQ w.heap.size w2.heap.size f m w2.heap.size 0 w (w2.alloc (.cells #[.slice none 0 0, .int .i64 0] 51)) from
    ⟨[], [], 0, ⟨[], hR2.same0 (same_alloc _)⟩, ⟨none, 0, RAt.fresh⟩, Eqv.nil, (hs02.trans (same_alloc _)).mono (fun _ _ h => h.elim)⟩)
  have hBm : w.heap.size ≤ m := by omega
  have hBs : w.heap.size ≤ w2.heap.size := by omega
  obtain ⟨r, hr⟩ : ∃ r, r = w2.heap.size := ⟨_, rfl⟩
  have HR := Lib.hid hr
  clear hR2 hs02 hs1 hs2 hr
  go_wp2
  rw [← HR.out] at ST0 hBs ⊢
  go_loopw [6] (fun v6 wx => ∃ (i : Nat) (W : World), W = wx ∧ i ≤ len ∧ i ≤ 100 ∧ v6 = .int .i64 i ∧ Hid (StQ w.heap.size r f m r i w W)) (fun v6 _ => len - (intOf v6).toNat)
  case atStart => exact ⟨0, _, rfl, by omega, by omega, rfl, ST0⟩
  case round =>
    obtain ⟨i, W, hW, hi1, hi2, rfl, HS⟩ := hrel
    subst hW
    by_cases hik : i < len ∧ i < 100
    · obtain ⟨hlt, hlt8⟩ := hik
      cases a with
      | none => exact absurd (HNIL.out rfl) (by omega)
      | some x =>
        obtain ⟨d, p, q, K, T, hact⟩ := HROWS.out.act rfl hlt
        have hblt := hact.lt
        obtain ⟨L, R, last, ⟨al, hRi⟩, ⟨ao, cp, hRA⟩, hev, hsi⟩ := HS.out
        obtain ⟨c0, c1, c2, c3, c4⟩ := hact.kept hsi (fun h => by omega)
        have H1 := Lib.hid (And.intro hRi (And.intro hRA hev))
        have HSI := Lib.hid hsi
        clear hRi hRA hev hsi hact
        go_wp2_with fail
        refine (did_any H1.out.1 H1.out.2.1 H1.out.2.2 hlt8 hBm hBs d p q K T).mono ?_
        rintro e w4 ⟨L', R', last', rfl, ⟨al', hr4⟩, ⟨ao4, cp4, hR4⟩, he4, hs4⟩
        have H4 := Lib.hid (And.intro hr4 (And.intro hR4 he4))
        have HS4 := Lib.hid (show StQ w.heap.size r f m r (i + 1) w w4 from ⟨L', R', last', ⟨al', hr4⟩, ⟨ao4, cp4, hR4⟩, he4, HSI.out.trans hs4⟩)
        obtain ⟨φ, hrl⟩ := he4.rel
        have hcnt := hrl.ncnt
        have HCN := Lib.hid hcnt
        clear c0 c1 c2 c3 c4 hr4 hR4 he4 hs4 hrl hcnt
        go_wp2_with fail
        refine (count_any H4.out.1).mono ?_
        rintro e w5 ⟨rfl, h45⟩
        rw [← h45]
        clear h45
        go_wp2_with fail
        refine (rcount_any H4.out.2.1).mono ?_
        rintro e w5 ⟨rfl, h45⟩
        rw [h45]
        clear h45
        rw [HCN.out]
        go_wp2
        go_loopw [8] (fun v8 wy => ∃ (k : Nat) (W2 : World), W2 = wy ∧ k ≤ 6 ∧ v8 = .int .i64 ((k : Int) + 1) ∧ Same (fun _ => False) w4 W2) (fun v8 _ => 7 - (intOf v8).toNat)
        case atStart => exact ⟨0, _, rfl, by omega, rfl, Same.refl _ _⟩
        case round =>
          obtain ⟨k, W2, hW2, hk6, rfl, hsk⟩ := hrel
          subst hW2
          by_cases hk : k < 6
          · have hkk : (k : Int) + 1 ≤ 6 := by omega
            go_wp2
            go_loopw [9] (fun v9 wz => ∃ (j : Nat) (W3 : World), W3 = wz ∧ j ≤ 10 ∧ v9 = .int .i64 ((j : Int) - 1) ∧ Same (fun _ => False) w4 W3) (fun v9 _ => 10 - (intOf v9 + 1).toNat)
            case atStart => exact ⟨0, _, rfl, by omega, rfl, hsk⟩
            case round =>
              obtain ⟨j, W3, hW3, hj, rfl, hsj⟩ := hrel
              subst hW3
              by_cases hj10 : j < 10
              · have hjj : (j : Int) - 1 ≤ 8 := by omega
                obtain ⟨K1, T1, e1, hg⟩ := getV_two L' ((k : Int) + 1) ((j : Int) - 1)
                have hg2 := (get_eq H4.out.2.2 ((k : Int) + 1) ((j : Int) - 1)).trans hg
                have HG := Lib.hid (And.intro hg hg2)
                have HSJ := Lib.hid hsj
                clear hg hg2 hsj
                go_wp2_with fail
                refine (get_any (H4.out.1.same0 HSJ.out) ((k : Int) + 1) ((j : Int) - 1)).mono ?_
                rintro e w6 ⟨rfl, hs6⟩
                rw [HG.out.1]
                simp only
                have hs7 := (HSJ.out.trans hs6).trans (same_alloc (.cells #[.int .i64 K1, .int .i64 T1] 23))
                have HS7 := Lib.hid hs7
                clear hs6 hs7
                go_wp2_with fail
                refine (rget_any (H4.out.2.1.same0 HS7.out) ((k : Int) + 1) ((j : Int) - 1)).mono ?_
                rintro e w8 ⟨rfl, hs8⟩
                rw [HG.out.2]
                simp only
                have x0 := hs8.cell (a := ⟨w6.heap.size, 0, none⟩) (v := .int .i64 K1) (by simp) (fun h => h)
                have x1 := hs8.cell (a := ⟨w6.heap.size, 1, none⟩) (v := .int .i64 T1) (by simp) (fun h => h)
                have hlt := World.block_lt_of_cell? _ _ x0
                simp only at hlt
                have HS9 := Lib.hid ((HS7.out.trans hs8).trans (same_alloc (.cells #[.int .i64 K1, .int .i64 T1] 23)))
                clear hs8
                go_wp2
                exact ⟨⟨j + 1, _, rfl, by omega, by go_num, HS9.out⟩, by simp [intOf]; omega⟩
              · obtain rfl : j = 10 := by omega
                go_wp2
                exact ⟨⟨k + 1, _, rfl, by omega, by go_num, hsj⟩, by simp [intOf]; omega⟩
          · obtain rfl : k = 6 := by omega
            go_wp2
            exact ⟨⟨i + 1, _, rfl, by omega, by omega, by go_num, Lib.hid (HS4.out.zero hsk)⟩, by simp [intOf]; omega⟩
    · have hlt : i < len → 100 ≤ i := by omega
      obtain ⟨L, R, last, -, -, -, hsi⟩ := HS.out
      have FIN : Same (fun _ => False) w W := hsi.mono (fun k hk e => by omega)
      clear hik hsi
      rcases Nat.lt_or_ge i len with hl | hl
      all_goals
        go_wp2
        go_ret
        exact ⟨rfl, FIN⟩
end Go.Proofs.Ytcllofffbmbmlaa
