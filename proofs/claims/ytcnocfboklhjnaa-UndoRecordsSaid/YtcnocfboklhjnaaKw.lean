/- undo: the walk of UndoRecords. Condition: the arguments' form. -/
import Derived.Test.YtcnocfboklhjnaaQd
import Derived.Test.YtcnocfboklhjnaaSh
import Derived.Test.YtcnocfboklhjnaaCt
import Derived.Test.YtcnocfboklhjnaaAr
import Derived.Test.YtcnocfboklhjnaaOw
import Derived.Test.YtcnocfboklhjnaaPw
namespace Go.Proofs.Ytcnocfboklhjnaa
open Go.RowKit Go.Shelf
attribute [local go_sem] Oper.semAt_some

theorem right_dec (L : List Tri) : ∃ B : Bool, (B = true ↔ Un.Right L) := by
  by_cases h : Un.Right L
  · exact ⟨true, by simp [h]⟩
  · exact ⟨false, by simp [h]⟩
theorem bool_same {a b : Bool} {P : Prop} (h1 : a = true ↔ P) (h2 : b = true ↔ P) : a = b := by
  cases a <;> cases b <;> simp_all
set_option maxHeartbeats 3200000 in
set_option maxRecDepth 16384 in
theorem records_walk (w : World) (a o : Option Addr) (c co : Nat) (L0 ops0 : List Tri) (id : Int) (hA : ArgT w a c L0) (hO : ArgT w o co ops0) :
    Calls Try.prog 3 #[.slice a L0.length c, .int .i64 id, .slice o ops0.length co] w fun e w' => e = .returned (.bool true) ∧ Same (fun _ => False) w w' := by
  have hsh := shown_any w
  have HA := Lib.hid hA
  have HO := Lib.hid hO
  obtain ⟨n, hn⟩ : ∃ n, n = L0.length := ⟨_, rfl⟩
  obtain ⟨no, hno⟩ : ∃ n, n = ops0.length := ⟨_, rfl⟩
  rw [← hn, ← hno]
  have HN := Lib.hid (And.intro hn hno)
  clear hn hno hA hO
  go_enter Try.func3, Try.ntmps3
  go_wp2_with fail
  refine hsh.mono ?_
  rintro e w1 ⟨rfl, hs1⟩
  have hct := cut_any w1 a c L0 (HA.out.row.same0 hs1) HA.out.len HA.out.cap HA.out.nil (fun x hx => by have := HA.out.blk x hx; have := hs1.size; omega)
  rw [← HN.out.1] at hct
  clear hsh
  go_wp2_with fail
  refine hct.mono ?_
  rintro e w2 ⟨v, rfl, hown, hs2⟩
  obtain ⟨L, hL⟩ : ∃ L, L = L0.take 70 := ⟨_, rfl⟩
  have hL70 : L.length ≤ 70 := by rw [hL, List.length_take]; omega
  rw [← hL] at hown
  obtain ⟨ao, cap, rfl, hao, hab, han, hac⟩ := own_tri hown
  have hnc : ao = none → cap = 0 := fun h => by subst h; exact (own_nilcap hown).2
  have H2 := Lib.hid (And.intro (hs1.trans hs2) hao)
  have hz2 := (hs1.trans hs2).size
  clear hct hown hao hs1 hs2 hL
  obtain ⟨nL, hnL⟩ : ∃ n, n = L.length := ⟨_, rfl⟩
  rw [← hnL]
  have HNL := Lib.hid hnL
  clear hnL
  obtain ⟨ops, hops⟩ : ∃ ops, ops = ops0.take 12 := ⟨_, rfl⟩
  obtain ⟨p, hp⟩ : ∃ p, p = ops.length := ⟨_, rfl⟩
  have hp12 : p ≤ 12 := by rw [hp, hops, List.length_take]; omega
  have HP := Lib.hid (And.intro hp hops)
  have few : Hid (∀ W, Calls Try.prog 13 #[.slice o no co] W fun e w' => e = .returned (.slice o p co) ∧ Same (fun _ => False) W w') := Lib.hid (fun W => by
    have h := few_any W o co ops0 HO.out.len HO.out.cap
    rw [← HN.out.2, ← HP.out.2, ← HP.out.1] at h
    exact h)
  have HOW : Hid (∀ W, Same (fun _ => False) w W → TriR W o ops) := Lib.hid (fun W hs => by rw [HP.out.2]; exact (HO.out.row.same0 hs).take 12)
  clear hp hops
  obtain ⟨R, hR⟩ : ∃ R, R = recS L id ops := ⟨_, rfl⟩
  have hlen := recS_len L ops id
  rw [← hR] at hlen
  have HRR := Lib.hid hR
  clear hR
  go_wp2_with fail
  refine (few.out w2).mono ?_
  rintro e w3 ⟨rfl, hs3⟩
  have hz3 := hs3.size
  have hrc := record_any w3 ao o cap co L ops id (H2.out.2.same0 hs3) (HOW.out w3 (H2.out.1.trans hs3)) (by unfold maxLen; omega) (by have := HP.out.1; unfold maxLen; omega) (fun x hx => by have := (hab x hx).2; omega) (fun x hx => by have := HO.out.blk x hx; omega)
  rw [← HNL.out, ← HP.out.1, ← HRR.out] at hrc
  have H3 := Lib.hid (And.intro (H2.out.1.trans hs3) (H2.out.2.same0 hs3))
  clear hs3
  go_wp2_with fail
  refine hrc.mono ?_
  rintro e w4 ⟨v4, rfl, hv4, hs4⟩
  obtain ⟨bo, cap4, rfl, hbo, hbb⟩ := out_tri hv4
  have hz4 := hs4.size
  have H4 := Lib.hid (And.intro (H3.out.1.trans hs4) (And.intro (H3.out.2.same0 hs4) hbo))
  obtain ⟨n4, hn4⟩ : ∃ n, n = (R.1.getD []).length := ⟨_, rfl⟩
  rw [← hn4] at hlen ⊢
  have HN4 := Lib.hid hn4
  clear hrc hv4 hs4 hbo hn4
  go_wp2_with fail
  refine (few.out w4).mono ?_
  rintro e w5 ⟨rfl, hs5⟩
  have hz5 := hs5.size
  have hrc2 := record14 w5 ao o cap co L ops id (H4.out.2.1.same0 hs5) (HOW.out w5 (H4.out.1.trans hs5)) (by omega) (by have := HP.out.1; unfold maxLen; omega) (fun h => ⟨han h, hnc h⟩) (fun x hx => by have := (hab x hx).2; omega) (fun x hx => by have := HO.out.blk x hx; omega)
  rw [← HNL.out, ← HP.out.1, ← HRR.out] at hrc2
  have H5 := Lib.hid (And.intro (H4.out.1.trans hs5) (And.intro (H4.out.2.1.same0 hs5) (H4.out.2.2.same0 hs5)))
  clear hs5
  go_wp2_with fail
  refine hrc2.mono ?_
  rintro e w6 ⟨v6, rfl, hv6, hs6⟩
  obtain ⟨po, cap6, rfl, hpo, hpb⟩ := out_tri hv6
  have hz6 := hs6.size
  have H6 := Lib.hid (And.intro (H5.out.1.trans hs6) (And.intro (H5.out.2.1.same0 hs6) (And.intro (H5.out.2.2.same0 hs6) hpo)))
  rw [← HN4.out]
  clear hrc2 hv6 hs6 hpo
  obtain ⟨B, hB⟩ := right_dec L
  have HB := Lib.hid hB
  have hri : Calls Try.prog 15 #[.slice ao nL cap] w6 fun e w' => e = .returned (.bool B) ∧ Same (fun _ => False) w6 w' := by
    have h := right_any w6 ao cap L H6.out.2.1 (by unfold maxLen; omega) (fun x hx => by have := (hab x hx).2; omega)
    rw [← HNL.out] at h
    exact h.mono fun e w' ⟨b, hb, he, hs⟩ => ⟨by rw [he, bool_same hb HB.out], hs⟩
  clear hB
  go_wp2_with fail
  refine hri.mono ?_
  rintro e w7 ⟨rfl, hs7⟩
  have hri2 : Calls Try.prog 16 #[.slice ao nL cap] w7 fun e w' => e = .returned (.bool B) ∧ Same (fun _ => False) w7 w' := by
    have h := right16 w7 ao cap L (H6.out.2.1.same0 hs7) (by unfold maxLen; omega)
    rw [← HNL.out] at h
    exact h.mono fun e w' ⟨b, hb, he, hs⟩ => ⟨by rw [he, bool_same hb HB.out], hs⟩
  have H7 := Lib.hid (And.intro (H6.out.1.trans hs7) (And.intro (H6.out.2.2.1.same0 hs7) (H6.out.2.2.2.same0 hs7)))
  clear hri hs7
  go_wp2_with fail
  refine hri2.mono ?_
  rintro e w8 ⟨rfl, hs8⟩
  have H8 := Lib.hid (And.intro (H7.out.1.trans hs8) (And.intro (H7.out.2.1.same0 hs8) (H7.out.2.2.same0 hs8)))
  have hsm := same_any w8 bo po cap4 cap6 (R.1.getD []) H8.out.2.1 H8.out.2.2 (by have := HN4.out; unfold maxLen; omega)
  rw [← HN4.out] at hsm
  have hBB : (B == B) = true := by simp
  clear hri2 hs8
  go_wp2_with fail
  refine hsm.mono ?_
  rintro e w9 ⟨rfl, hs9⟩
  have H9 := Lib.hid (H8.out.1.trans hs9)
  clear hsm hs9
  go_wp2
  go_ret
  exact ⟨rfl, H9.out⟩
end Go.Proofs.Ytcnocfboklhjnaa
