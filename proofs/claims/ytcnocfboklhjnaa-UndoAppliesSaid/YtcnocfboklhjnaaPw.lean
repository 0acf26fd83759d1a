/- undo: the walk of UndoParts. Condition: the arguments' form. -/
import Derived.Test.YtcnocfboklhjnaaSh
import Derived.Test.YtcnocfboklhjnaaCt
import Derived.Test.YtcnocfboklhjnaaAr
namespace Go.Proofs.Ytcnocfboklhjnaa
open Go.RowKit Go.Shelf
attribute [local go_sem] Oper.semAt_some

theorem recS_ok {L ops l : List Tri} {id : Int} : recS L id ops = (some l, 0) ↔ Un.Right L ∧ 0 ≤ id ∧ ops.length ≤ 8 ∧ (∀ t ∈ ops, badOp t = false) ∧ Un.recL id L (ops.map opOf) = some l ∧ l.length ≤ 64 := by
  unfold recS
  constructor
  · intro h
    split at h
    · simp at h
    · rename_i h1
      split at h
      · simp at h
      · rename_i h2
        have g1 : Un.Right L := Classical.byContradiction fun g => h1 (.inl g)
        refine ⟨g1, by have : ¬ id < 0 := fun g => h1 (.inr (.inl g)); omega, by have : ¬ 8 < ops.length := fun g => h1 (.inr (.inr g)); omega, fun t ht => ?_, ?_⟩
        · cases hc : badOp t
          · rfl
          · exact absurd ⟨t, ht, hc⟩ h2
        · split at h
          · simp at h
          · rename_i l' hl
            split at h
            · simp at h
            · simp only [Prod.mk.injEq, Option.some.injEq, and_true] at h
              subst h
              exact ⟨hl, by omega⟩
  · rintro ⟨h1, h2, h3, h4, h5, h6⟩
    rw [if_neg (by rintro (h | h | h); exact h h1; omega; omega), if_neg (by rintro ⟨t, ht, hb⟩; rw [h4 t ht] at hb; cases hb), h5]
    simp only
    rw [if_neg (by omega)]
theorem recS_num (L ops : List Tri) (id : Int) : (∃ l, recS L id ops = (some l, 0)) ∨ (recS L id ops).1 = none ∧ (recS L id ops).2 ≠ 0 := by
  unfold recS
  split
  · right; simp
  · split
    · right; simp
    · split
      · right; simp
      · split
        · right; simp
        · left; exact ⟨_, rfl⟩
theorem recS_full {L ops l : List Tri} {id : Int} (h1 : Un.Right L) (h2 : 0 ≤ id) (h3 : ops.length ≤ 8) (h4 : ∀ t ∈ ops, badOp t = false) (h5 : Un.recL id L (ops.map opOf) = some l) (h6 : 64 < l.length) : recS L id ops = (none, 101) := by
  unfold recS
  rw [if_neg (by rintro (h | h | h); exact h h1; omega; omega), if_neg (by rintro ⟨t, ht, hb⟩; rw [h4 t ht] at hb; cases hb), h5]
  simp only
  rw [if_pos h6]
/-- In two parts. -/
theorem parts_law (L A B : List Tri) (id : Int) (h8 : (A ++ B).length ≤ 8) :
    (∃ z y, recS L id (A ++ B) = (some z, 0) ∧ recS L id A = (some y, 0) ∧ recS y id B = (some z, 0)) ∨
    ((recS L id (A ++ B)).2 ≠ 0 ∧ ((recS L id A).2 ≠ 0 ∨ (recS ((recS L id A).1.getD []) id B).2 ≠ 0)) ∨ ((recS L id (A ++ B)).2 = 0 ∧ (recS L id A).2 = 101) := by
  have ha : A.length ≤ 8 := by rw [List.length_append] at h8; omega
  have hb : B.length ≤ 8 := by rw [List.length_append] at h8; omega
  have hnn : ∀ {ops : List Tri}, (∀ t ∈ ops, badOp t = false) → ∀ o ∈ ops.map opOf, 0 ≤ o.num := by
    intro ops h o ho
    obtain ⟨t, ht, rfl⟩ := List.mem_map.1 ho
    have := h t ht
    unfold badOp at this
    simp at this
    exact this.1
  rcases recS_num L (A ++ B) id with ⟨z, hz⟩ | ⟨-, hz⟩
  · obtain ⟨h1, h2, h3, h4, h5, h6⟩ := recS_ok.1 hz
    rw [List.map_append, Un.recL_append] at h5
    have h4a : ∀ t ∈ A, badOp t = false := fun t ht => h4 t (List.mem_append_left _ ht)
    have h4b : ∀ t ∈ B, badOp t = false := fun t ht => h4 t (List.mem_append_right _ ht)
    cases hy : Un.recL id L (A.map opOf) with
    | none => rw [hy] at h5; simp at h5
    | some y =>
      rw [hy, Option.bind_some] at h5
      have hyr := Un.recL_right h2 ⟨h1.ok, h1.asc⟩ (hnn h4a) hy
      by_cases h64 : 64 < y.length
      · right; right
        rw [hz, recS_full h1 h2 ha h4a hy h64]
        exact ⟨rfl, rfl⟩
      · left
        exact ⟨z, y, hz, recS_ok.2 ⟨h1, h2, ha, h4a, hy, by omega⟩, recS_ok.2 ⟨⟨by omega, hyr.ok, hyr.asc⟩, h2, hb, h4b, h5, h6⟩⟩
  · right; left
    refine ⟨hz, ?_⟩
    rcases recS_num L A id with ⟨y, hy⟩ | ⟨-, hy⟩
    · right
      rw [hy]
      simp only [Option.getD_some]
      rcases recS_num y B id with ⟨x, hx⟩ | ⟨-, hx⟩
      · exfalso
        obtain ⟨h1, h2, h3, h4, h5, h6⟩ := recS_ok.1 hy
        obtain ⟨k1, k2, k3, k4, k5, k6⟩ := recS_ok.1 hx
        refine hz ?_
        have hh := (recS_ok (L := L) (ops := A ++ B) (l := x) (id := id)).2 ⟨h1, h2, h8, fun t ht => (List.mem_append.1 ht).elim (h4 t) (k4 t), by rw [List.map_append, Un.recL_append, h5, Option.bind_some, k5], k6⟩
        rw [hh]
      · exact hx
    · exact .inl hy
theorem TriR.drop {w : World} {a : Option Addr} {l : List Tri} (h : TriR w a l) (k : Nat) (P : Prop) [Decidable P] (hP : P → l.length ≤ k) : TriR w (if P then a else a.map fun x => x.add (k * 3)) (l.drop k) := by
  intro i t hi
  rw [List.getElem?_drop] at hi
  have hlt := (List.getElem?_eq_some_iff.1 hi).1
  rw [if_neg (fun hp => by have := hP hp; omega)]
  obtain ⟨x, rfl, hx⟩ := h _ t hi
  refine ⟨_, rfl, ?_⟩
  rw [add_add2, ← Nat.add_mul]
  exact hx
/-- What is answered: nil, or a list that was made. -/
theorem out_tri {w : World} {s : Nat} {v : Value} {o : Option (List Tri)} (h : OutL w s v o) :
    ∃ ao cap, v = .slice ao (o.getD []).length cap ∧ TriR w ao (o.getD []) ∧ (∀ x, ao = some x → s ≤ x.block ∧ x.block < w.heap.size) := by
  cases o with
  | none =>
    have hv : v = .slice none 0 0 := h
    subst hv
    exact ⟨none, 0, rfl, fun i t hi => by simp at hi, fun x hx => by cases hx⟩
  | some l =>
    obtain ⟨ao, cap, hv, h1, h2, -⟩ := own_tri (h : w.ownsRow s 45 3 v l.length (flat3 l))
    exact ⟨ao, cap, hv, h1, h2⟩
set_option maxHeartbeats 3200000 in
set_option maxRecDepth 16384 in
theorem parts_walk (w : World) (a o : Option Addr) (c co : Nat) (L0 ops0 : List Tri) (id at_ : Int) (hA : ArgT w a c L0) (hO : ArgT w o co ops0) :
    Calls Try.prog 5 #[.slice a L0.length c, .int .i64 id, .slice o ops0.length co, .int .i64 at_] w fun e w' => e = .returned (.bool true) ∧ Same (fun _ => False) w w' := by
  have hsh := shown_any w
  have HA := Lib.hid hA
  have HO := Lib.hid hO
  have hon := hO.len
  have hoc := hO.cap
  have hon2 : ops0.length ≤ 9223372036854775807 := by unfold maxLen at hon; omega
  obtain ⟨n, hn⟩ : ∃ n, n = L0.length := ⟨_, rfl⟩
  rw [← hn]
  have HN := Lib.hid hn
  clear hn hA hO
  obtain ⟨ops, hops⟩ : ∃ ops, ops = ops0.take 8 := ⟨_, rfl⟩
  have hm : min (ops0.length : Int) 8 = (ops.length : Nat) := by rw [hops, List.length_take]; omega
  have hmc : ops.length ≤ co := by rw [hops, List.length_take]; omega
  have hm8 : ops.length ≤ 8 := by rw [hops, List.length_take]; omega
  have HOP := Lib.hid hops
  obtain ⟨no, hno⟩ : ∃ n, n = ops0.length := ⟨_, rfl⟩
  obtain ⟨m, hmd⟩ : ∃ n, n = ops.length := ⟨_, rfl⟩
  rw [← hno] at hm hon hoc hon2 ⊢
  rw [← hmd] at hm hmc hm8
  have HM := Lib.hid (And.intro hno hmd)
  clear hno hmd hops
  go_enter Try.func5, Try.ntmps5
  go_wp2_with fail
  refine hsh.mono ?_
  rintro e w1 ⟨rfl, hs1⟩
  have hct := cut_any w1 a c L0 (HA.out.row.same0 hs1) HA.out.len HA.out.cap HA.out.nil (fun x hx => by have := HA.out.blk x hx; have := hs1.size; omega)
  rw [← HN.out] at hct
  clear hsh
  go_wp2_with fail
  refine hct.mono ?_
  rintro e w2 ⟨v, rfl, hown, hs2⟩
  obtain ⟨L, hL⟩ : ∃ L, L = L0.take 70 := ⟨_, rfl⟩
  have hL70 : L.length ≤ 70 := by rw [hL, List.length_take]; omega
  rw [← hL] at hown
  obtain ⟨ao, cap, rfl, hao, hab, han, hac⟩ := own_tri hown
  have H2 := Lib.hid (And.intro (hs1.trans hs2) hao)
  have hz2 := (hs1.trans hs2).size
  clear hct hown hao hs1 hs2 hL
  obtain ⟨nL, hnL⟩ : ∃ n, n = L.length := ⟨_, rfl⟩
  rw [← hnL]
  have HNL := Lib.hid hnL
  clear hnL
  by_cases h1 : at_ < 0
  · have e1 : decide (at_ < 0) = true := by simpa using h1
    go_wp2
    go_ret
    exact ⟨rfl, H2.out.1⟩
  have e1 : decide (at_ < 0) = false := by simpa using h1
  by_cases h2 : (m : Int) < at_
  · have e2 : decide ((m : Int) < at_) = true := by simpa using h2
    go_wp2
    go_ret
    exact ⟨rfl, H2.out.1⟩
  obtain ⟨k, rfl⟩ : ∃ k : Nat, at_ = k := ⟨at_.toNat, by omega⟩
  have hkm : k ≤ m := by omega
  have e2 : decide ((m : Int) < k) = false := by simpa using h2
  have e2' : decide (m < k) = false := by simpa using hkm
  clear h1 h2
  have hrc := record_any w2 ao o cap co L ops id H2.out.2 (by rw [HOP.out]; exact (HO.out.row.same0 H2.out.1).take 8) (by unfold maxLen; omega) (by have := HM.out.2; unfold maxLen; omega) (fun x hx => (hab x hx).2) (fun x hx => by have := HO.out.blk x hx; omega)
  rw [← HNL.out, ← HM.out.2] at hrc
  go_wp2_with fail
  refine hrc.mono ?_
  rintro e w3 ⟨v3, rfl, hv3, hs3⟩
  obtain ⟨r1, hr1⟩ : ∃ r, r = recS L id ops := ⟨_, rfl⟩
  rw [← hr1] at hv3 ⊢
  obtain ⟨bo, cap3, rfl, hbo, hbb⟩ := out_tri hv3
  have hs03 := H2.out.1.trans hs3
  have hz3 := hs3.size
  have H3 := Lib.hid (And.intro hs03 (And.intro (H2.out.2.same0 hs3) hbo))
  have HR1 := Lib.hid hr1
  have hO3 : TriR w3 o ops := by rw [HOP.out]; exact (HO.out.row.same0 hs03).take 8
  have HO3 := Lib.hid hO3
  have hol : (ops.take k).length = k := by rw [List.length_take]; have := HM.out.2; omega
  have hdl : (ops.drop k).length = m - k := by rw [List.length_drop]; have := HM.out.2; omega
  have hrc2 := record_any w3 ao o cap co L (ops.take k) id H3.out.2.1 (hO3.take k) (by unfold maxLen; omega) (by unfold maxLen; omega) (fun x hx => by have := (hab x hx).2; omega) (fun x hx => by have := HO.out.blk x hx; have := hs03.size; omega)
  rw [← HNL.out, hol] at hrc2
  clear hrc hr1 hv3 hbo hs03 hs3 hO3
  obtain ⟨n1, hn1⟩ : ∃ n, n = (r1.1.getD []).length := ⟨_, rfl⟩
  rw [← hn1]
  have HN1 := Lib.hid hn1
  clear hn1
  have hkc : k ≤ co := by omega
  go_wp2_with fail
  refine hrc2.mono ?_
  rintro e w4 ⟨v4, rfl, hv4, hs4⟩
  obtain ⟨r2, hr2⟩ : ∃ r, r = recS L id (ops.take k) := ⟨_, rfl⟩
  rw [← hr2] at hv4 ⊢
  obtain ⟨po, cap4, rfl, hpo, hpb⟩ := out_tri hv4
  obtain ⟨y, hy⟩ : ∃ y, y = r2.1.getD [] := ⟨_, rfl⟩
  rw [← hy] at hpo ⊢
  have hs04 := H3.out.1.trans hs4
  have hz4 := hs4.size
  have hz04 := hs04.size
  have H4 := Lib.hid (And.intro hs04 (And.intro (H3.out.2.1.same0 hs4) (And.intro (H3.out.2.2.same0 hs4) hpo)))
  have HR2 := Lib.hid hr2
  have hyl : y.length ≤ 1000 := by
    rcases recS_num L (ops.take k) id with ⟨l, hl⟩ | ⟨hl, -⟩
    · rw [hy, hr2, hl]
      have := (recS_ok.1 hl).2.2.2.2.2
      simp only [Option.getD_some]
      omega
    · rw [hy, hr2, hl]
      simp
  have HY := Lib.hid hy
  have hrc3 : ∀ q cq, (∀ x, q = some x → x.block < w4.heap.size) → TriR w4 q (ops.drop k) → Calls Try.prog 12 #[.slice po y.length cap4, .int .i64 id, .slice q (ops.drop k).length cq] w4 fun e w' =>
      ∃ v, e = .returned (.tuple #[v, .int .i64 (recS y id (ops.drop k)).2]) ∧ OutL w' w4.heap.size v (recS y id (ops.drop k)).1 ∧ Same (fun _ => False) w4 w' := fun q cq hq1 hq2 =>
    record_any w4 po q cap4 cq y (ops.drop k) id hpo hq2 (by unfold maxLen; omega) (by unfold maxLen; omega) (fun x hx => (hpb x hx).2) hq1
  have hdr := (HO3.out.same0 hs4).drop k
  have HDR := Lib.hid hdr
  have HQ : Hid (∀ x, (o.map fun x => x.add (k * 3)) = some x → x.block < w4.heap.size) := Lib.hid (fun x hx => by
    rw [Option.map_eq_some_iff] at hx
    obtain ⟨z, hz, rfl⟩ := hx
    have := HO.out.blk z hz
    rw [(add_off z _).2]
    omega)
  have HQ1 : Hid (TriR w4 (o.map fun x => x.add (k * 3)) (ops.drop k)) := Lib.hid (by have h := HDR.out False (fun h => h.elim); rw [if_neg (fun h => h)] at h; exact h)
  rw [hdl] at hrc3
  clear hrc2 hr2 hv4 hpo hs04 hs4 hy hdr
  obtain ⟨n2, hn2⟩ : ∃ n, n = y.length := ⟨_, rfl⟩
  rw [← hn2] at hyl hrc3 ⊢
  have HN2 := Lib.hid hn2
  obtain ⟨r3, hr3⟩ : ∃ r, r = recS y id (ops.drop k) := ⟨_, rfl⟩
  have HR3 := Lib.hid hr3
  rw [← hr3] at hrc3
  have HRC3 := Lib.hid hrc3
  clear hn2 hr3 hrc3
  have hlaw := parts_law L (ops.take k) (ops.drop k) id (by rw [List.take_append_drop]; have := HM.out.2; omega)
  rw [List.take_append_drop, ← HR1.out, ← HR2.out, ← HY.out, ← HR3.out] at hlaw
  have HLAW : Hid ((∃ z, r1 = (some z, 0) ∧ r2.2 = 0 ∧ r3 = (some z, 0)) ∨ (r1.2 ≠ 0 ∧ (r2.2 ≠ 0 ∨ r3.2 ≠ 0)) ∨ (r1.2 = 0 ∧ r2.2 = 101)) := Lib.hid (by
    rcases hlaw with ⟨z, y', q1, q2, q3⟩ | h | h
    · refine .inl ⟨z, q1, by rw [q2], ?_⟩
      have hyy : y = y' := by rw [HY.out, q2]; rfl
      rw [HR3.out, hyy]; exact q3
    · exact .inr (.inl h)
    · exact .inr (.inr h))
  clear hlaw hol hdl
  by_cases hkco : co = k
  go_wp2_with fail
  refine (HRC3.out o _ (fun x hx => by have := HO.out.blk x hx; omega) (by have h := HDR.out True (fun _ => by have := HM.out.2; omega); rw [if_pos trivial] at h; exact h)).mono ?_
  rotate_left
  go_wp2_with fail
  refine (HRC3.out _ _ HQ.out HQ1.out).mono ?_
  all_goals rintro e w5 ⟨v5, rfl, hv5, hs5⟩
  all_goals obtain ⟨so, cap5, rfl, hso, hsb⟩ := out_tri hv5
  all_goals have H5 := Lib.hid (And.intro (H4.out.1.trans hs5) (And.intro ((H4.out.2.2.1).same0 hs5) hso))
  all_goals clear hv5 hso hs5
  all_goals rcases HLAW.out with ⟨z, q1, q2, q3⟩ | ⟨q1, q2⟩ | ⟨q1, q2⟩
  all_goals first
    | (have hb3 : TriR w5 so z := by have h := H5.out.2.2; rw [q3] at h; exact h
       have hb1 : TriR w5 bo z := by have h := H5.out.2.1; rw [q1] at h; exact h
       have hnz : n1 = z.length := by rw [HN1.out, q1]; rfl
       have hzl : z.length ≤ 1000 := by
         have h := (recS_ok (L := L) (ops := ops) (l := z) (id := id)).1 (HR1.out.symm.trans q1)
         have := h.2.2.2.2.2
         omega
       have hsm := same_any w5 bo so cap3 cap5 z hb1 hb3 (by unfold maxLen; omega)
       rw [q1, q2, q3, hnz]
       simp only [Option.getD_some]
       clear hb3 hb1 hnz q1 q2 q3
       go_wp2_with fail
       refine hsm.mono ?_
       rintro e w6 ⟨rfl, hs6⟩
       have H6 := Lib.hid (H5.out.1.trans hs6)
       clear hsm hs6
       go_wp2
       go_ret
       exact ⟨rfl, H6.out⟩)
    | (rw [q1, q2]
       clear q1 q2
       have H6 := Lib.hid H5.out.1
       go_wp2
       all_goals go_ret
       all_goals exact ⟨rfl, H6.out⟩)
    | (have q1' : (r1.snd == 0) = false := by simpa using q1
       have H6 := Lib.hid H5.out.1
       by_cases q3 : r2.snd = 0
       · have q4 : ¬ r3.snd = 0 := by rcases q2 with h | h; exact absurd q3 h; exact h
         have q4' : (r3.snd == 0) = false := by simpa using q4
         rw [q3]
         clear q2 q3
         go_wp2
         all_goals go_ret
         all_goals exact ⟨rfl, H6.out⟩
       · have q3' : (r2.snd == 0) = false := by simpa using q3
         clear q2
         go_wp2
         all_goals go_ret
         all_goals exact ⟨rfl, H6.out⟩)
end Go.Proofs.Ytcnocfboklhjnaa
