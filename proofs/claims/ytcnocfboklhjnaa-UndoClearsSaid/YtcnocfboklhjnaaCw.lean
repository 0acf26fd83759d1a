/- undo: the walk of UndoClears. Condition: the arguments' form. -/
import Derived.Test.YtcnocfboklhjnaaCl
import Derived.Test.YtcnocfboklhjnaaSh
import Derived.Test.YtcnocfboklhjnaaCt
import Derived.Test.YtcnocfboklhjnaaAr
import Derived.Test.YtcnocfboklhjnaaPw
namespace Go.Proofs.Ytcnocfboklhjnaa
open Go.RowKit Go.Shelf
attribute [local go_sem] Oper.semAt_some

set_option maxHeartbeats 3200000 in
set_option maxRecDepth 16384 in
theorem clears_walk (w : World) (a : Option Addr) (c : Nat) (L0 : List Tri) (id num other n2 : Int) (hA : ArgT w a c L0) :
    Calls Try.prog 8 #[.slice a L0.length c, .int .i64 id, .int .i64 num, .int .i64 other, .int .i64 n2] w fun e w' => e = .returned (.bool true) ∧ Same (fun _ => False) w w' := by
  have hsh := shown_any w
  have HA := Lib.hid hA
  obtain ⟨n, hn⟩ : ∃ n, n = L0.length := ⟨_, rfl⟩
  rw [← hn]
  have HN := Lib.hid hn
  clear hn hA
  go_enter Try.func8, Try.ntmps8
  go_wp2_with fail
  refine hsh.mono ?_
  rintro e w1 ⟨rfl, hs1⟩
  have hct := cut_any w1 a c L0 (HA.out.row.same0 hs1) HA.out.len HA.out.cap HA.out.nil (fun x hx => by have := HA.out.blk x hx; have := hs1.size; omega)
  rw [← HN.out] at hct
  clear hsh
  go_wp2_with fail
  refine hct.mono ?_
  rintro e w2 ⟨v, rfl, hown, hs2⟩
  obtain ⟨L, hL⟩ : ∃ L, L = L0.take 70 := ⟨_, rfl⟩
  have hL70 : L.length ≤ 70 := by rw [hL, List.length_take]; omega
  rw [← hL] at hown
  obtain ⟨ao, cap, rfl, hao, hab, han, hac⟩ := own_tri hown
  have hsp := own_spot hown
  have hcl := clear_any w2 ao cap L id num hao (by omega) (fun x hx => (hab x hx).2) hsp han
  have H2 := Lib.hid (And.intro (hs1.trans hs2) hao)
  clear hct hown hao hs1 hs2 hL hsp
  obtain ⟨nL, hnL⟩ : ∃ n, n = L.length := ⟨_, rfl⟩
  rw [← hnL] at hcl ⊢
  have HNL := Lib.hid hnL
  clear hnL
  go_wp2_with fail
  refine hcl.mono ?_
  rintro e w3 ⟨v3, rfl, hv3, hs3⟩
  have H3 := Lib.hid (And.intro (H2.out.1.trans hs3) (H2.out.2.same0 hs3))
  have hz3 := hs3.size
  clear hcl hs3
  by_cases hR : Un.Right L
  · have hr : clrS L id num = (some (Un.clr L id num), 0) := by rw [clrS, if_pos hR]
    rw [hr] at hv3 ⊢
    have hv3' : w3.ownsRow w2.heap.size 45 3 v3 (Un.clr L id num).length (flat3 (Un.clr L id num)) := hv3
    obtain ⟨bo, cap3, rfl, hbo, hbb, -⟩ := own_tri hv3'
    have H3b := Lib.hid hbo
    have hcr := Un.clr_right hR id num
    have hcl64 := hcr.len
    have HCR := Lib.hid hcr
    have hof := of22 w3 ao cap L other n2 H3.out.2 (by unfold maxLen; omega)
    rw [← HNL.out] at hof
    obtain ⟨nc, hnc⟩ : ∃ n, n = (Un.clr L id num).length := ⟨_, rfl⟩
    rw [← hnc] at hcl64 ⊢
    have HNC := Lib.hid hnc
    have hval := Un.ofN_clr L id num other n2
    have HVAL := Lib.hid hval
    have HOF := Lib.hid hof
    clear hr hv3 hv3' hbo hR hcr hnc hval hof
    have key : Hid (∀ w4, Same (fun _ => False) w3 w4 → Calls Try.prog 15 #[.slice bo nc cap3] w4 fun e w' => e = .returned (.bool true) ∧ Same (fun _ => False) w4 w') := Lib.hid (fun w4 hs => by
      have h := right_any w4 bo cap3 (Un.clr L id num) (H3b.out.same0 hs) (by have := HNC.out; unfold maxLen; omega) (fun x hx => by have := (hbb x hx).2; have := hs.size; omega)
      rw [← HNC.out] at h
      refine h.mono ?_
      rintro e w' ⟨b, hb, rfl, hs'⟩
      cases b with
      | true => exact ⟨rfl, hs'⟩
      | false => exact absurd (hb.2 HCR.out) (by simp))
    have key2 : Hid (∀ w4, Same (fun _ => False) w3 w4 → Calls Try.prog 22 #[.slice bo nc cap3, .int .i64 other, .int .i64 n2] w4 fun e w' => e = .returned (.int .i64 (Un.ofN (Un.clr L id num) other n2)) ∧ Same (fun _ => False) w4 w') := Lib.hid (fun w4 hs => by
      have h := of22 w4 bo cap3 (Un.clr L id num) other n2 (H3b.out.same0 hs) (by have := HNC.out; unfold maxLen; omega)
      rw [← HNC.out] at h
      exact h)
    obtain ⟨x, hx⟩ : ∃ x, x = Un.ofN (Un.clr L id num) other n2 := ⟨_, rfl⟩
    obtain ⟨y, hy⟩ : ∃ y, y = Un.ofN L other n2 := ⟨_, rfl⟩
    rw [← hx] at key2
    rw [← hy] at HOF
    have HXY : Hid (x = if other = id ∧ (num < 0 ∨ n2 = num) then 0 else y) := Lib.hid (by rw [hx, hy]; exact HVAL.out)
    clear hx hy HVAL
    have hcases : (¬ other = id ∧ x = y) ∨ (other = id ∧ num < 0 ∧ x = 0) ∨ (other = id ∧ ¬ num < 0 ∧ n2 = num ∧ x = 0) ∨ (other = id ∧ ¬ num < 0 ∧ ¬ n2 = num ∧ x = y) := by
      have h := HXY.out
      by_cases h1 : other = id
      · by_cases h2 : num < 0
        · rw [if_pos ⟨h1, .inl h2⟩] at h; exact .inr (.inl ⟨h1, h2, h⟩)
        · by_cases h3 : n2 = num
          · rw [if_pos ⟨h1, .inr h3⟩] at h; exact .inr (.inr (.inl ⟨h1, h2, h3, h⟩))
          · rw [if_neg (by rintro ⟨_, h | h⟩; exact h2 h; exact h3 h)] at h; exact .inr (.inr (.inr ⟨h1, h2, h3, h⟩))
      · rw [if_neg (fun h => h1 h.1)] at h; exact .inl ⟨h1, h⟩
    clear HXY
    rcases hcases with ⟨h1, hxy⟩ | ⟨h1, h2, hxy⟩ | ⟨h1, h2, h3, hxy⟩ | ⟨h1, h2, h3, hxy⟩
    · have e1 : (other == id) = false := by simpa using h1
      subst hxy
      clear h1
      go_wp2_with fail
      refine HOF.out.mono ?_
      rintro e w4 ⟨rfl, hs4⟩
      have hk1 := key.out w4 hs4
      have H4 := Lib.hid (And.intro hs4 (H3.out.1.trans hs4))
      clear hs4
      go_wp2_with fail
      refine hk1.mono ?_
      rintro e w5 ⟨rfl, hs5⟩
      have hk2 := key2.out w5 (H4.out.1.trans hs5)
      have H5 := Lib.hid (H4.out.2.trans hs5)
      clear hs5 hk1
      go_wp2_with fail
      refine hk2.mono ?_
      rintro e w6 ⟨rfl, hs6⟩
      have H6 := Lib.hid (H5.out.trans hs6)
      clear hs6 hk2
      go_wp2
      go_ret
      exact ⟨by simp, H6.out⟩
    · have e1 : (other == id) = true := by simpa using h1
      have e2 : decide (num < 0) = true := by simpa using h2
      subst hxy
      clear h1 h2
      go_wp2_with fail
      refine HOF.out.mono ?_
      rintro e w4 ⟨rfl, hs4⟩
      have hk1 := key.out w4 hs4
      have H4 := Lib.hid (And.intro hs4 (H3.out.1.trans hs4))
      clear hs4
      go_wp2_with fail
      refine hk1.mono ?_
      rintro e w5 ⟨rfl, hs5⟩
      have hk2 := key2.out w5 (H4.out.1.trans hs5)
      have H5 := Lib.hid (H4.out.2.trans hs5)
      clear hs5 hk1
      go_wp2_with fail
      refine hk2.mono ?_
      rintro e w6 ⟨rfl, hs6⟩
      have H6 := Lib.hid (H5.out.trans hs6)
      clear hs6 hk2
      go_wp2
      go_ret
      exact ⟨by simp, H6.out⟩
    · have e1 : (other == id) = true := by simpa using h1
      have e2 : decide (num < 0) = false := by simpa using h2
      have e3 : (n2 == num) = true := by simpa using h3
      subst hxy
      clear h1 h2 h3
      go_wp2_with fail
      refine HOF.out.mono ?_
      rintro e w4 ⟨rfl, hs4⟩
      have hk1 := key.out w4 hs4
      have H4 := Lib.hid (And.intro hs4 (H3.out.1.trans hs4))
      clear hs4
      go_wp2_with fail
      refine hk1.mono ?_
      rintro e w5 ⟨rfl, hs5⟩
      have hk2 := key2.out w5 (H4.out.1.trans hs5)
      have H5 := Lib.hid (H4.out.2.trans hs5)
      clear hs5 hk1
      go_wp2_with fail
      refine hk2.mono ?_
      rintro e w6 ⟨rfl, hs6⟩
      have H6 := Lib.hid (H5.out.trans hs6)
      clear hs6 hk2
      go_wp2
      go_ret
      exact ⟨by simp, H6.out⟩
    · have e1 : (other == id) = true := by simpa using h1
      have e2 : decide (num < 0) = false := by simpa using h2
      have e3 : (n2 == num) = false := by simpa using h3
      subst hxy
      clear h1 h2 h3
      go_wp2_with fail
      refine HOF.out.mono ?_
      rintro e w4 ⟨rfl, hs4⟩
      have hk1 := key.out w4 hs4
      have H4 := Lib.hid (And.intro hs4 (H3.out.1.trans hs4))
      clear hs4
      go_wp2_with fail
      refine hk1.mono ?_
      rintro e w5 ⟨rfl, hs5⟩
      have hk2 := key2.out w5 (H4.out.1.trans hs5)
      have H5 := Lib.hid (H4.out.2.trans hs5)
      clear hs5 hk1
      go_wp2_with fail
      refine hk2.mono ?_
      rintro e w6 ⟨rfl, hs6⟩
      have H6 := Lib.hid (H5.out.trans hs6)
      clear hs6 hk2
      go_wp2
      go_ret
      exact ⟨by simp, H6.out⟩
  · have hr : clrS L id num = (none, 2) := by rw [clrS, if_neg hR]
    rw [hr] at hv3 ⊢
    have hv3' : v3 = .slice none 0 0 := hv3
    subst hv3'
    have hri := right_any w3 ao cap L H3.out.2 (by unfold maxLen; omega) (fun x hx => by have := (hab x hx).2; omega)
    rw [← HNL.out] at hri
    have HNR := Lib.hid hR
    clear hv3 hr hR
    go_wp2_with fail
    refine hri.mono ?_
    rintro e w4 ⟨b, hb, rfl, hs4⟩
    have hbf : b = false := by
      cases b
      · rfl
      · exact absurd (hb.1 rfl) HNR.out
    subst hbf
    have H4 := Lib.hid (H3.out.1.trans hs4)
    clear hri hb hs4
    go_wp2
    go_ret
    exact ⟨rfl, H4.out⟩
end Go.Proofs.Ytcnocfboklhjnaa
