/- undo: the walk of UndoApplies. Condition: the arguments' form. -/
import Derived.Test.YtcnocfboklhjnaaQg
import Derived.Test.YtcnocfboklhjnaaSh
import Derived.Test.YtcnocfboklhjnaaCt
import Derived.Test.YtcnocfboklhjnaaAr
import Derived.Test.YtcnocfboklhjnaaPw
namespace Go.Proofs.Ytcnocfboklhjnaa
open Go.RowKit Go.Shelf
attribute [local go_sem] Oper.semAt_some

theorem idsS_len (L : List Tri) : (idsS L).length ≤ L.length := by
  unfold idsS
  split
  · exact idsU_len L none
  · simp
set_option maxHeartbeats 6400000 in
set_option maxRecDepth 16384 in
theorem applies_walk (w : World) (a q : Option Addr) (c cq : Nat) (L0 : List Tri) (vs0 : List Int) (id num : Int) (hA : ArgT w a c L0) (hQ : ArgI w q cq vs0) :
    Calls Try.prog 9 #[.slice a L0.length c, .int .i64 id, .int .i64 num, .slice q vs0.length cq] w fun e w' => e = .returned (.bool true) ∧ Same (fun _ => False) w w' := by
  have hsh := shown_any w
  have HA := Lib.hid hA
  have HQ := Lib.hid hQ
  have hvn := hQ.len
  have hvc := hQ.cap
  have hvn2 : vs0.length ≤ 9223372036854775807 := by unfold maxLen at hvn; omega
  obtain ⟨vs, hvs⟩ : ∃ vs, vs = vs0.take 12 := ⟨_, rfl⟩
  have hvl : vs.length ≤ 12 := by rw [hvs, List.length_take]; omega
  obtain ⟨n, hn⟩ : ∃ n, n = L0.length := ⟨_, rfl⟩
  obtain ⟨nv, hnv⟩ : ∃ n, n = vs0.length := ⟨_, rfl⟩
  obtain ⟨m, hm⟩ : ∃ m, m = vs.length := ⟨_, rfl⟩
  have hvm : min (nv : Int) 12 = (m : Nat) := by rw [hm, hvs, List.length_take, ← hnv]; omega
  have hmc : m ≤ cq := by rw [hm, hvs, List.length_take]; omega
  rw [← hnv] at hvn hvc hvn2
  rw [← hm] at hvl
  rw [← hn, ← hnv]
  have HN := Lib.hid (And.intro hn (And.intro hm hvs))
  clear hn hnv hm hvs hA hQ
  go_enter Try.func9, Try.ntmps9
  go_wp2_with fail
  refine hsh.mono ?_
  rintro e w1 ⟨rfl, hs1⟩
  have hct := cut_any w1 a c L0 (HA.out.row.same0 hs1) HA.out.len HA.out.cap HA.out.nil (fun x hx => by have := HA.out.blk x hx; have := hs1.size; omega)
  rw [← HN.out.1] at hct
  clear hsh
  go_wp2_with fail
  refine hct.mono ?_
  rintro e w2 ⟨v, rfl, hown, hs2⟩
  obtain ⟨L, hL⟩ : ∃ L, L = L0.take 70 := ⟨_, rfl⟩
  have hL70 : L.length ≤ 70 := by rw [hL, List.length_take]; omega
  rw [← hL] at hown
  obtain ⟨ao, cap, rfl, hao, hab, han, hac⟩ := own_tri hown
  have hsp := own_spot hown
  have hs02 := hs1.trans hs2
  have hz02 := hs02.size
  have HVS : Hid (∀ W, Same (fun _ => False) w W → IntR W q vs) := Lib.hid (fun W hs => by rw [HN.out.2.2]; exact (HQ.out.row.same0 hs).take 12)
  have HAO : Hid (∀ W, Same (fun _ => False) w2 W → TriR W ao L) := Lib.hid (fun W hs => hao.same0 hs)
  have hqn : q = none → vs = [] := fun h => by rw [HN.out.2.2, (HQ.out.nil h).1]; rfl
  have hap := apply_any w2 ao q cap cq L vs id hao (HVS.out w2 hs02) (by unfold maxLen; omega) (by have := HN.out.2.1; omega) (fun x hx => (hab x hx).2) (fun x hx => by have := HQ.out.blk x hx; omega) HQ.out.spot hqn
  have H2 := Lib.hid (And.intro hs02 hsp)
  obtain ⟨nL, hnL⟩ : ∃ n, n = L.length := ⟨_, rfl⟩
  rw [← hnL] at hap ⊢
  rw [← HN.out.2.1] at hap
  have HNL := Lib.hid hnL
  obtain ⟨RA, hRA⟩ : ∃ R, R = appS L id vs := ⟨_, rfl⟩
  have hal := appS_len L id vs
  rw [← hRA] at hal hap
  have HRA := Lib.hid hRA
  clear hct hown hao hs1 hs2 hL hs02 hsp hnL hRA
  go_wp2_with fail
  refine hap.mono ?_
  rintro e w3 ⟨v3, rfl, hv3, hs3⟩
  have ho3 := out_ownI hv3
  obtain ⟨bo, cap3, rfl, hbo, hbb, -⟩ := own_int ho3
  have hz3 := hs3.size
  have H3 := Lib.hid (And.intro hs3 hbo)
  obtain ⟨n3, hn3⟩ : ∃ n, n = (RA.1.getD []).length := ⟨_, rfl⟩
  rw [← hn3] at hal ⊢
  have HN3 := Lib.hid hn3
  have hap2 := apply23 w3 ao q cap cq L vs id (HAO.out w3 hs3) (HVS.out w3 (H2.out.1.trans hs3)) (by omega) (by have := HN.out.2.1; omega) (fun x hx => by have := HQ.out.blk x hx; omega)
  rw [← HNL.out, ← HN.out.2.1, ← HRA.out] at hap2
  clear hap hv3 ho3 hbo hs3 hn3
  go_wp2_with fail
  refine hap2.mono ?_
  rintro e w4 ⟨v4, rfl, hv4, hs4⟩
  have ho4 := out_ownI hv4
  obtain ⟨co, cap4, rfl, hco, hcb, -⟩ := own_int ho4
  have hz4 := hs4.size
  have H4 := Lib.hid (And.intro (H3.out.1.trans hs4) (And.intro (H3.out.2.same0 hs4) hco))
  rw [← HN3.out]
  have hcl := clear_any w4 ao cap L id num (HAO.out w4 H4.out.1) (by omega) (fun x hx => by have := (hab x hx).2; omega) H2.out.2 han
  rw [← HNL.out] at hcl
  obtain ⟨RC, hRC⟩ : ∃ R, R = clrS L id num := ⟨_, rfl⟩
  have hcl2 := clrS_len L id num
  rw [← hRC] at hcl hcl2
  have HRC := Lib.hid hRC
  clear hap2 hv4 ho4 hco hs4 hRC
  go_wp2_with fail
  refine hcl.mono ?_
  rintro e w5 ⟨v5, rfl, hv5, hs5⟩
  have ho5 := out_own hv5
  obtain ⟨eo, cap5, rfl, heo, heb, -⟩ := own_tri ho5
  have hz5 := hs5.size
  have H5 := Lib.hid (And.intro (H4.out.1.trans hs5) (And.intro (H4.out.2.1.same0 hs5) (And.intro (H4.out.2.2.same0 hs5) heo)))
  obtain ⟨n5, hn5⟩ : ∃ n, n = (RC.1.getD []).length := ⟨_, rfl⟩
  rw [← hn5] at hcl2 ⊢
  have HN5 := Lib.hid hn5
  have hcl3 := clear24 w5 ao cap L id num (HAO.out w5 H5.out.1) (by omega) (fun x hx => by have := (hab x hx).2; omega)
  rw [← HNL.out, ← HRC.out] at hcl3
  clear hcl hv5 ho5 heo hs5 hn5
  go_wp2_with fail
  refine hcl3.mono ?_
  rintro e w6 ⟨v6, rfl, hv6, hs6⟩
  have ho6 := out_own hv6
  obtain ⟨fo, cap6, rfl, hfo, hfb, -⟩ := own_tri ho6
  have hz6 := hs6.size
  have H6 := Lib.hid (And.intro (H5.out.1.trans hs6) (And.intro (H5.out.2.1.same0 hs6) (And.intro (H5.out.2.2.1.same0 hs6) (And.intro (H5.out.2.2.2.same0 hs6) hfo))))
  rw [← HN5.out]
  have hi1 := ints_any w6 bo co cap3 cap4 (RA.1.getD []) H6.out.2.1 H6.out.2.2.1 (by have := HN3.out; have := HN.out.2.1; unfold maxLen; omega)
  rw [← HN3.out] at hi1
  have hqa : (RA.2 == RA.2) = true := by simp
  have hqc : (RC.2 == RC.2) = true := by simp
  clear hcl3 hv6 ho6 hfo hs6
  go_wp2_with fail
  refine hi1.mono ?_
  rintro e w7 ⟨rfl, hs7⟩
  have H7 := Lib.hid (And.intro (H6.out.1.trans hs7) (And.intro (H6.out.2.2.2.1.same0 hs7) (H6.out.2.2.2.2.same0 hs7)))
  have hsm := same_any w7 eo fo cap5 cap6 (RC.1.getD []) H7.out.2.1 H7.out.2.2 (by have := HN5.out; unfold maxLen; omega)
  rw [← HN5.out] at hsm
  clear hi1 hs7
  go_wp2_with fail
  refine hsm.mono ?_
  rintro e w8 ⟨rfl, hs8⟩
  have H8 := Lib.hid (H7.out.1.trans hs8)
  have hz8 := H8.out.size
  have hid1 := ids25 w8 ao cap L (HAO.out w8 H8.out) (by omega) (fun x hx => by have := (hab x hx).2; omega)
  rw [← HNL.out] at hid1
  obtain ⟨RI, hRI⟩ : ∃ R, R = idsS L := ⟨_, rfl⟩
  have hil := idsS_len L
  rw [← hRI] at hid1 hil
  have HRI := Lib.hid hRI
  clear hsm hs8 hRI
  go_wp2_with fail
  refine hid1.mono ?_
  rintro e w9 ⟨v9, rfl, ho9, hs9⟩
  obtain ⟨go, cap9, rfl, hgo, hgb, -⟩ := own_int ho9
  have H9 := Lib.hid (And.intro (H8.out.trans hs9) hgo)
  have hz9 := H9.out.1.size
  obtain ⟨n9, hn9⟩ : ∃ n, n = RI.length := ⟨_, rfl⟩
  rw [← hn9] at hil ⊢
  have HN9 := Lib.hid hn9
  have hid2 := ids26 w9 ao cap L (HAO.out w9 H9.out.1) (by omega) (fun x hx => by have := (hab x hx).2; omega)
  rw [← HNL.out, ← HRI.out] at hid2
  clear hid1 ho9 hgo hs9 hn9
  go_wp2_with fail
  refine hid2.mono ?_
  rintro e w10 ⟨v10, rfl, ho10, hs10⟩
  obtain ⟨ho, cap10, rfl, hho, hhb, -⟩ := own_int ho10
  rw [← HN9.out]
  have H10 := Lib.hid (And.intro (H9.out.1.trans hs10) (And.intro (H9.out.2.same0 hs10) hho))
  have hi2 := ints_any w10 go ho cap9 cap10 RI H10.out.2.1 H10.out.2.2 (by have := HN9.out; unfold maxLen; omega)
  rw [← HN9.out] at hi2
  clear hid2 ho10 hho hs10
  go_wp2_with fail
  refine hi2.mono ?_
  rintro e w11 ⟨rfl, hs11⟩
  have H11 := Lib.hid (H10.out.1.trans hs11)
  have hof := of22 w11 ao cap L id num (HAO.out w11 H11.out) (by unfold maxLen; omega)
  rw [← HNL.out] at hof
  obtain ⟨RO, hRO⟩ : ∃ R, R = Un.ofN L id num := ⟨_, rfl⟩
  rw [← hRO] at hof
  have HRO := Lib.hid hRO
  clear hi2 hs11 hRO
  go_wp2_with fail
  refine hof.mono ?_
  rintro e w12 ⟨rfl, hs12⟩
  have H12 := Lib.hid (H11.out.trans hs12)
  have hof2 := of27 w12 ao cap L id num (HAO.out w12 H12.out) (by unfold maxLen; omega)
  rw [← HNL.out, ← HRO.out] at hof2
  have hqo : (RO == RO) = true := by simp
  clear hof hs12
  go_wp2_with fail
  refine hof2.mono ?_
  rintro e w13 ⟨rfl, rfl⟩
  clear hof2
  go_wp2
  go_ret
  exact ⟨rfl, H2.out.1.trans H12.out⟩
end Go.Proofs.Ytcnocfboklhjnaa
