/- undo: the walk of UndoBack. Condition: the arguments' form. -/
import Derived.Test.YtcnocfboklhjnaaTr
import Derived.Test.YtcnocfboklhjnaaPw
namespace Go.Proofs.Ytcnocfboklhjnaa
open Go.RowKit Go.Shelf
attribute [local go_sem] Oper.semAt_some

theorem tryL_ok : ∀ (ops : List Un.Op) (vs now : List Int), (∀ v ∈ vs, 0 ≤ v ∧ v ≤ 32767) → Un.tryL vs ops = some now → ∀ o ∈ ops, 0 ≤ o.num ∧ -32767 ≤ o.delta ∧ o.delta ≤ 32767
  | [], _, _, _, _ => fun o h => by simp at h
  | o :: r, vs, now, hv, h => by
    unfold Un.tryL at h
    split at h
    · rename_i hc
      obtain ⟨c1, c2, c3, c4⟩ := hc
      have hoL : o.num.toNat < vs.length := by omega
      have hgx : vs.getD o.num.toNat 0 ∈ vs := by
        rw [List.getD_eq_getElem?_getD, List.getElem?_eq_getElem hoL]
        exact List.getElem_mem hoL
      have hb := hv _ hgx
      have ih := tryL_ok r _ now (fun v hvm => by
        rcases List.mem_or_eq_of_mem_set hvm with hvm | rfl
        · exact hv v hvm
        · exact ⟨c3, c4⟩) h
      intro x hx
      rcases List.mem_cons.1 hx with rfl | hx
      · exact ⟨c1, by omega, by omega⟩
      · exact ih x hx
    · cases h
theorem recL_len {id : Int} : ∀ (ops : List Un.Op) (l l' : List Tri), Un.recL id l ops = some l' → l'.length ≤ l.length + ops.length
  | [], l, l', h => by simp only [Un.recL, Option.some.injEq] at h; subst h; simp
  | o :: r, l, l', h => by
    unfold Un.recL at h
    rw [List.length_cons]
    split at h
    · split at h
      · cases h
      · have := recL_len r _ _ h
        have := upd_len l ⟨id, o.num, Un.ofN l id o.num - o.delta⟩
        omega
    · have := recL_len r _ _ h
      omega
def two (t : Tri) : Tri := ⟨t.id, t.num, 2⟩
theorem two_u (t : Tri) : (opOf (two t)).u = true := by
  have h2 : (bits .and .i64 2 2 == 0) = false := by kernel_rfl
  simp [opOf, two, h2]
theorem back_all {vs now : List Int} {ops : List Tri} (hvs : Vs vs) (h8 : (ops.map two).length ≤ 8) (ht : Un.tryL vs ((ops.map two).map opOf) = some now) :
    ∃ l, recS [] 3 (ops.map two) = (some l, 0) ∧ l.length ≤ 8 ∧ appS l 3 now = (some vs, 0) ∧ appS l 4 now = (some now, 0) ∧ now.length = vs.length := by
  obtain ⟨l, h1, h2, h3, h4, h5, h6⟩ := Un.back_law hvs.2 ((ops.map two).map opOf) vs now [] (fun o ho => by
    obtain ⟨t, ht, rfl⟩ := List.mem_map.1 ho
    obtain ⟨s, _, rfl⟩ := List.mem_map.1 ht
    exact two_u s) ⟨fun a h => by simp at h, List.Pairwise.nil⟩ (fun a h => by simp at h) rfl hvs.2 (fun i v h => by rw [Un.ofN_nil, Int.add_zero]; exact h) ht
  have hok := tryL_ok _ vs now hvs.2 ht
  have hlen := recL_len _ _ _ h1
  rw [List.length_map] at hlen
  have hl8 : l.length ≤ 8 := by simp only [List.length_nil, Nat.zero_add] at hlen; omega
  have hR : Un.Right l := ⟨by omega, h2.ok, h2.asc⟩
  have hnb : ∀ v ∈ now, ¬ badV v = true := fun v hv => by
    have := h5 v hv
    unfold badV
    simp
    omega
  refine ⟨l, recS_ok.2 ⟨right_nil, by omega, h8, fun t ht' => ?_, h1, by omega⟩, hl8, ?_, ?_, h4⟩
  · have := hok (opOf t) (List.mem_map.2 ⟨t, ht', rfl⟩)
    unfold badOp okS
    simp only [opOf] at this
    simp
    omega
  · rw [appS, if_neg (by rintro (h | ⟨v, hv, hb⟩); exact h hR; exact hnb v hv hb)]
    congr 2
    apply List.ext_getElem?
    intro i
    unfold Un.appl
    rw [List.getElem?_mapIdx]
    cases hx : now[i]? with
    | none =>
      have : now.length ≤ i := List.getElem?_eq_none_iff.1 hx
      rw [List.getElem?_eq_none (by omega)]
      rfl
    | some v =>
      have hr := h6 i v hx
      have hb := hvs.2 _ (List.mem_of_getElem? hr)
      rw [hr]
      simp only [Option.map_some, Option.some.injEq]
      unfold Un.cl
      omega
  · rw [appS, if_neg (by rintro (h | ⟨v, hv, hb⟩); exact h hR; exact hnb v hv hb)]
    congr 2
    apply List.ext_getElem?
    intro i
    unfold Un.appl
    rw [List.getElem?_mapIdx]
    cases hx : now[i]? with
    | none => rfl
    | some v =>
      have hb := h5 v (List.mem_of_getElem? hx)
      have h0 : Un.ofN l 4 i = 0 := Un.ofN_none (fun a ha e => by have := h3 a ha; omega)
      simp only [Option.map_some, Option.some.injEq]
      rw [h0]
      unfold Un.cl
      omega
theorem Try.info35 : (Try.prog.info? 35).map (fun i => (i.zero, i.size, i.bytes)) = some (some (.agg #[.int .i64 0, .int .i64 0, .int .i64 0]), 3, 24) := by kernel_rfl
theorem info35 : ∃ i, Try.prog.info? 35 = some i ∧ i.zero = some (.agg #[.int .i64 0, .int .i64 0, .int .i64 0]) ∧ i.size = 3 ∧ i.bytes = 24 := by
  have := Try.info35
  cases h : Try.prog.info? 35 with
  | none => rw [h] at this; simp at this
  | some i => rw [h] at this; exact ⟨i, rfl, by simpa using this⟩
set_option maxHeartbeats 3200000 in
set_option maxRecDepth 16384 in
theorem back_walk (w : World) (a o : Option Addr) (c co : Nat) (vs0 : List Int) (ops : List Tri) (hA : ArgI w a c vs0) (hO : ArgT w o co ops) (h64 : ∀ t ∈ ops, In64 t.num) :
    Calls Try.prog 4 #[.slice a vs0.length c, .slice o ops.length co] w fun e w' => e = .returned (.bool true) ∧ Same (fun _ => False) w w' := by
  have hsh := shown_any w
  obtain ⟨i35, hi35, hq1, hq2, hq3⟩ := info35
  have HA := Lib.hid hA
  have HO := Lib.hid hO
  have H64 := Lib.hid h64
  have hon := hO.len
  have hon2 : ops.length ≤ 9223372036854775807 := by unfold maxLen at hon; omega
  have hvn := hA.len
  have hvc := hA.cap
  have hvn2 : vs0.length ≤ 9223372036854775807 := by unfold maxLen at hvn; omega
  obtain ⟨vs, hvs⟩ : ∃ vs, vs = vs0.take 8 := ⟨_, rfl⟩
  have hm : min (vs0.length : Int) 8 = (vs.length : Nat) := by rw [hvs, List.length_take]; omega
  have hmc : vs.length ≤ c := by rw [hvs, List.length_take]; omega
  have hm8 : vs.length ≤ 8 := by rw [hvs, List.length_take]; omega
  have HVS := Lib.hid hvs
  obtain ⟨nv, hnv⟩ : ∃ n, n = vs0.length := ⟨_, rfl⟩
  obtain ⟨m, hmd⟩ : ∃ n, n = vs.length := ⟨_, rfl⟩
  obtain ⟨no, hno⟩ : ∃ n, n = ops.length := ⟨_, rfl⟩
  rw [← hnv] at hm hvn hvc hvn2 ⊢
  rw [← hmd] at hm hmc hm8
  rw [← hno] at hon hon2 ⊢
  obtain ⟨K, hK⟩ : ∃ K, K = (ops.take 8).map two := ⟨_, rfl⟩
  obtain ⟨p, hp⟩ : ∃ p, p = K.length := ⟨_, rfl⟩
  have hpm : p = min 8 no := by rw [hp, hK, List.length_map, List.length_take, hno]
  have HPM := Lib.hid hpm
  have hp8 : p ≤ 8 := by omega
  clear hpm
  have HM := Lib.hid (And.intro hmd (And.intro hno (And.intro hK hp)))
  clear hnv hmd hno hvs hA hO hK hp
  go_enter Try.func4, Try.ntmps4
  go_wp2_with fail
  refine hsh.mono ?_
  rintro e w1 ⟨rfl, hs1⟩
  have hz1 := hs1.size
  have HS1 := Lib.hid hs1
  clear hsh hs1
  go_wp2
  go_loopw [6, 7, 8] (fun v6 v7 v8 wx => ∃ (i : Nat) (W : World) (vv : Value), W = wx ∧ vv = v6 ∧ i ≤ p ∧ v7 = .int .i64 i ∧ Hid (W.ownsRow w1.heap.size 35 3 vv i (flat3 (K.take i)) ∧ Same (fun b => w1.heap.size ≤ b) w1 W)) (fun _ v7 _ _ => p - (intOf v7).toNat)
  case atStart => exact ⟨0, _, _, rfl, rfl, by omega, rfl, Lib.hid ⟨World.ownsRow_nil .., Same.refl _ _⟩⟩
  case round =>
    obtain ⟨i, W, v6, hW, hv6, hi, rfl, HI⟩ := hrel
    subst hW
    subst hv6
    by_cases hin : i < p
    · have hi1 : i < no := by have := HPM.out; omega
      have hi2 : i < 8 := by omega
      have e1 : decide ((i : Int) < no) = true := by simp; omega
      have e2 : decide ((i : Int) < 8) = true := by simp; omega
      obtain ⟨t, ht⟩ : ∃ t, ops[i]? = some t := ⟨_, List.getElem?_eq_getElem (by have := HM.out.2.1; omega)⟩
      have hKi : K[i]? = some (two t) := by rw [HM.out.2.2.1, List.getElem?_map, List.getElem?_take, if_pos hi2, ht]; rfl
      obtain ⟨x, rfl, hx⟩ := HO.out.row i t ht
      have hxb := HO.out.blk x rfl
      have hzw := HI.out.2.size
      have hx2 := hx.same ((HS1.out.mono (T := fun b => w.heap.size ≤ b) (fun _ _ h => h.elim)).trans (HI.out.2.mono (fun b _ h => by omega))) (by rw [(add_off x _).2]; omega)
      have x0 := hx2.c0
      have x1 := hx2.c1
      have x2 := hx2.c2
      obtain ⟨WB, hWB⟩ : ∃ WB, WB = W.alloc (.cells #[.int .i64 t.id, .int .i64 t.num, .int .i64 2] 35) := ⟨_, rfl⟩
      have hsB : Same (fun _ => False) W WB := by rw [hWB]; exact same_alloc _
      have b0 : WB.cell? ⟨W.heap.size, 0, none⟩ = some (.int .i64 t.id) := by rw [hWB]; simp [go_sem]
      have b1 : WB.cell? ⟨W.heap.size, 1, none⟩ = some (.int .i64 t.num) := by rw [hWB]; simp [go_sem]
      have b2 : WB.cell? ⟨W.heap.size, 2, none⟩ = some (.int .i64 2) := by rw [hWB]; simp [go_sem]
      have hsC : Same (fun _ => False) WB (WB.alloc (.cells #[.int .i64 t.id, .int .i64 t.num, .int .i64 2] 35)) := same_alloc _
      have oC := ownsRow_same (ownsRow_same HI.out.1 hsB (fun _ _ h => h)) hsC (fun _ _ h => h)
      have hzB := hsB.size
      obtain ⟨v', w6, hrun, hown6, hsame6, -⟩ := run_append_same (P := Try.prog) (WB.alloc (.cells #[.int .i64 t.id, .int .i64 t.num, .int .i64 2] 35)) w1.heap.size 23 23 35 i35 (.agg #[.int .i64 0, .int .i64 0, .int .i64 0]) 3 24 Try.underlying23 hi35 hq1 hq2 hq3 rfl (by decide) _ i _ oC
        ⟨WB.heap.size, 0, none⟩ 1 1 [.int .i64 t.id, .int .i64 t.num, .int .i64 2] (by rfl) (fun j u hu => cells_new rfl hu) (by simp [Value.oneCell']) (by unfold maxLen; omega) (by omega) (by simp; omega)
      have hblk : ∀ k, v6.ownBlock = some k → w1.heap.size ≤ k := fun k hk => (ownsRow_shape HI.out.1 hk).1
      have HR6 := Lib.hid (And.intro hown6 (((HI.out.2.trans (hsB.mono (T := fun b => w1.heap.size ≤ b) (fun _ _ h => h.elim))).trans (hsC.mono (T := fun b => w1.heap.size ≤ b) (fun _ _ h => h.elim))).trans (hsame6.mono (fun b _ h => hblk b h))))
      have hsz : WB.heap.size = W.heap.size + 1 := by rw [hWB]; simp
      rw [hsz, hWB] at hrun
      have HRUN := Lib.hid hrun
      have HX := Lib.hid hKi
      clear hx hx2 ht hsB hsC oC hrun hown6 hsame6 hblk hKi
      go_wp2_with (at_builtin; refine wpList_append_run rfl (.tmp 39) (.tmp 41) 23 rfl _ _ rfl rfl HRUN.out ?_)
      go_round
      case rel =>
        refine ⟨i + 1, w6, v', rfl, rfl, by omega, by go_num, Lib.hid ⟨?_, HR6.out.2⟩⟩
        have h := HR6.out.1
        rw [List.take_add_one, HX.out, flat3_append]
        exact h
      case measure => simp [intOf]; omega
    · obtain rfl : i = p := by omega
      have hown := HI.out.1
      rw [HM.out.2.2.2, List.take_length] at hown
      obtain ⟨ko, cap, rfl, hko, hkb, -⟩ := own_tri hown
      have hs0 : Same (fun _ => False) w W := (HS1.out.mono (T := fun b => w.heap.size ≤ b) (fun _ _ h => h.elim)).trans (HI.out.2.mono (T := fun b => w.heap.size ≤ b) (fun b _ h => by omega)) |>.mono (fun b hb h => by omega)
      have hzw := hs0.size
      have hpn : K.length = i := HM.out.2.2.2.symm
      have htr := try_any W a ko c cap vs K (by rw [HVS.out]; exact (HA.out.row.same0 hs0).take 8) hko (by have := HM.out.1; unfold maxLen; omega) (by unfold maxLen; omega) (fun t ht => by
        rw [HM.out.2.2.1] at ht
        obtain ⟨s, hs, rfl⟩ := List.mem_map.1 ht
        exact H64.out s (List.mem_of_mem_take hs)) (fun x hx => by have := HA.out.blk x hx; omega) (fun x hx => (hkb x hx).2) (fun h => by rw [HVS.out, (HA.out.nil h).1]; rfl)
      rw [← HM.out.1, hpn] at htr
      have H0 := Lib.hid (And.intro hs0 hko)
      rw [hpn]
      clear hown hko hs0 hpn
      have HTR := Lib.hid htr
      clear htr
      by_cases hc : i < no
      have e1 : decide ((i : Int) < no) = true := by simp; omega
      have e2 : decide ((i : Int) < 8) = false := by have := HPM.out; simp; omega
      go_wp2_with fail
      refine HTR.out.mono ?_
      rotate_left
      have e1 : decide ((i : Int) < no) = false := by simp; omega
      go_wp2_with fail
      refine HTR.out.mono ?_
      all_goals
        clear HTR
        rintro e w2 ⟨v2, n2, er, rfl, hs2, hdone⟩
        have hs02 := H0.out.1.trans hs2
        have hz2 := hs2.size
        have hz02 := hs02.size
        by_cases her : er = 0
        · subst her
          obtain ⟨now, hD⟩ := hdone rfl
          obtain ⟨l, q1, q2, q3, q4, q5⟩ := back_all (ops := ops.take 8) hD.hv (by rw [← HM.out.2.2.1]; exact hD.len) (by rw [← HM.out.2.2.1]; exact hD.tr)
          rw [← HM.out.2.2.1] at q1
          have hnow : now.length ≤ 8 := by rw [q5]; exact hD.hv.1.2
          obtain ⟨no2, cap2, rfl, hno2, hnb2, hnf2, hnn2, hnc2⟩ := own_int hD.out
          have hrc := record_any w2 none ko 0 cap [] K 3 (fun i t h => by simp at h) (H0.out.2.same0 hs2) (by decide) (by have := HM.out.2.2.2; unfold maxLen; omega) (fun x h => by cases h) (fun x hx => by have := (hkb x hx).2; omega)
          rw [q1, ← HM.out.2.2.2] at hrc
          have H2 := Lib.hid (And.intro hs02 hno2)
          have HQ := Lib.hid (And.intro q1 (And.intro q2 (And.intro q3 (And.intro q4 (And.intro q5 hnow)))))
          obtain ⟨nn, hnn⟩ : ∃ n, n = now.length := ⟨_, rfl⟩
          have HNN := Lib.hid hnn
          rw [← hnn]
          clear hdone hD q1 q2 q3 q4 q5 hno2 hs02 hs2 hnn
          go_wp2_with fail
          refine hrc.mono ?_
          rintro e w3 ⟨v3, rfl, hown3, hs3⟩
          obtain ⟨lo, cap3, rfl, hlo, hlb, -⟩ := own_tri hown3
          have hz3 := hs3.size
          have H3 := Lib.hid (And.intro (H2.out.1.trans hs3) (And.intro (H2.out.2.same0 hs3) hlo))
          have hap := apply_any w3 lo no2 cap3 cap2 l now 3 hlo (H2.out.2.same0 hs3) (by have := HQ.out.2.1; unfold maxLen; omega) (by omega) (fun x hx => (hlb x hx).2) (fun x hx => by have := (hnb2 x hx).2; omega) hnf2 hnn2
          rw [HQ.out.2.2.1, ← HNN.out] at hap
          obtain ⟨nl, hnl⟩ : ∃ n, n = l.length := ⟨_, rfl⟩
          have HNl := Lib.hid hnl
          rw [← hnl] at hap ⊢
          clear hrc hown3 hlo hs3 hnl
          go_wp2_with fail
          refine hap.mono ?_
          rintro e w4 ⟨v4, rfl, hown4, hs4⟩
          obtain ⟨bo, cap4, rfl, hbo, hbb, -⟩ := own_int hown4
          have hz4 := hs4.size
          have H4 := Lib.hid (And.intro (H3.out.1.trans hs4) (And.intro (H3.out.2.1.same0 hs4) (And.intro (H3.out.2.2.same0 hs4) hbo)))
          have hap2 := apply_any w4 lo no2 cap3 cap2 l now 4 H4.out.2.2.1 H4.out.2.1 (by have := HQ.out.2.1; unfold maxLen; omega) (by omega) (fun x hx => by have := (hlb x hx).2; omega) (fun x hx => by have := (hnb2 x hx).2; omega) hnf2 hnn2
          rw [HQ.out.2.2.2.1, ← HNN.out, ← HNl.out] at hap2
          have hvsn : vs.length = m := HM.out.1.symm
          rw [hvsn]
          clear hap hown4 hbo hs4 hvsn
          go_wp2_with fail
          refine hap2.mono ?_
          rintro e w5 ⟨v5, rfl, hown5, hs5⟩
          obtain ⟨po, cap5, rfl, hpo, hpb, -⟩ := own_int hown5
          have H5 := Lib.hid (And.intro (H4.out.1.trans hs5) (And.intro (H4.out.2.1.same0 hs5) (And.intro (H4.out.2.2.2.same0 hs5) hpo)))
          have hin := ints_any w5 bo a cap4 c vs H5.out.2.2.1 (by rw [HVS.out]; exact (HA.out.row.same0 H5.out.1).take 8) (by have := HM.out.1; unfold maxLen; omega)
          rw [← HM.out.1] at hin
          rw [← HNN.out]
          clear hap2 hown5 hpo hs5
          go_wp2_with fail
          refine hin.mono ?_
          rintro e w6 ⟨rfl, hs6⟩
          have H6 := Lib.hid (And.intro (H5.out.1.trans hs6) (And.intro (H5.out.2.1.same0 hs6) (H5.out.2.2.2.same0 hs6)))
          have hin2 := ints_any w6 po no2 cap5 cap2 now H6.out.2.2 H6.out.2.1 (by unfold maxLen; omega)
          rw [← HNN.out] at hin2
          clear hin hs6
          go_wp2_with fail
          refine hin2.mono ?_
          rintro e w7 ⟨rfl, hs7⟩
          have H7 := Lib.hid (H6.out.1.trans hs7)
          clear hin2 hs7
          go_wp2
          go_ret
          exact ⟨rfl, H7.out⟩
        · have her' : (er == 0) = false := by simpa using her
          have H2 := Lib.hid hs02
          clear hdone hs02 hs2
          go_wp2
          go_ret
          exact ⟨rfl, H2.out⟩
end Go.Proofs.Ytcnocfboklhjnaa
