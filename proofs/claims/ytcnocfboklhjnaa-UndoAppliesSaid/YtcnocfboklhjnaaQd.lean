/- undo: the reference's Record. Conditions: the lists' lengths. -/
import Derived.Test.YtcnocfboklhjnaaQc
namespace Go.Proofs.Ytcnocfboklhjnaa
open Go.RowKit Go.Shelf
attribute [local go_sem] Oper.semAt_some

/-- A list is copied into one that is nil. -/
theorem app_nil {w : World} {a : Option Addr} {c : Nat} {l : List Tri} (hr : TriR w a l) (hl : l.length ≤ 1000) (hnil : a = none → l = [] ∧ c = 0) :
    ∃ v' w', (Builtin.append_ #[22, 22] 22 #[.slice none 0 0, .slice a l.length c]).run Try.prog w = .ok v' w' ∧ w'.ownsRow w.heap.size 45 3 v' l.length (flat3 l) ∧ Same (fun _ => False) w w' := by
  obtain ⟨i45, hi45, hz1, hz2, hz3⟩ := info45
  cases a with
  | none =>
    obtain ⟨rfl, rfl⟩ := hnil rfl
    exact ⟨_, w, run_append_owned_none (P := Try.prog) w w.heap.size 22 22 45 i45 3 Try.underlying22 hi45 _ 0 [] (World.ownsRow_nil ..), World.ownsRow_nil .., Same.refl _ _⟩
  | some x =>
    obtain ⟨v', w', h1, h2, h3, -⟩ := run_append_same (P := Try.prog) w w.heap.size 22 22 45 i45 (.agg #[.int .i64 0, .int .i64 0, .int .i64 0]) 3 24 Try.underlying22 hi45 hz1 hz2 hz3 rfl (by decide) (.slice none 0 0) 0 [] (World.ownsRow_nil ..) x l.length c (flat3 l) (flat3_len l) hr.cells (flat3_one l) (by unfold maxLen; omega) (by omega) (Nat.le_refl _)
    rw [Nat.zero_add, List.nil_append] at h2
    exact ⟨v', w', h1, h2, h3.mono (fun k _ h => by simp [Value.ownBlock] at h)⟩
set_option maxHeartbeats 3200000 in
set_option maxRecDepth 16384 in
theorem record14 (w : World) (a o : Option Addr) (c co : Nat) (L ops : List Tri) (id : Int) (hr : TriR w a L) (ho : TriR w o ops) (hlen : L.length ≤ 1000) (hol : ops.length ≤ maxLen) (hnil : a = none → L = [] ∧ c = 0)
    (ha : ∀ x, a = some x → x.block < w.heap.size) (hoa : ∀ x, o = some x → x.block < w.heap.size) :
    Calls Try.prog 14 #[.slice a L.length c, .int .i64 id, .slice o ops.length co] w fun e w' =>
      ∃ v, e = .returned (.tuple #[v, .int .i64 (recS L id ops).2]) ∧ OutL w' w.heap.size v (recS L id ops).1 ∧ Same (fun _ => False) w w' := by
  obtain ⟨R, hRd⟩ : ∃ R, R = recS L id ops := ⟨_, rfl⟩
  rw [← hRd]
  have HRD := Lib.hid hRd
  have hra := right16 w a c L hr (by unfold maxLen; omega)
  have HR := Lib.hid (And.intro hr hnil)
  have HO := Lib.hid ho
  have hol2 : ops.length ≤ 9223372036854775807 := by unfold maxLen at hol; omega
  obtain ⟨n, hn⟩ : ∃ n, n = ops.length := ⟨_, rfl⟩
  obtain ⟨nL, hnL⟩ : ∃ n, n = L.length := ⟨_, rfl⟩
  rw [← hn] at hol2 ⊢
  rw [← hnL] at hra hlen ⊢
  have HN := Lib.hid (And.intro hn hnL)
  clear hr ho hn hnL hRd hol hnil
  go_enter Try.func14, Try.ntmps14
  go_wp2_with fail
  refine hra.mono ?_
  rintro e w1 ⟨b, hb, rfl, hs1⟩
  have HB := Lib.hid hb
  clear hb hra
  cases b with
  | false =>
    have HS : Hid (R = (none, 2)) := Lib.hid (by rw [HRD.out, recS, if_pos (.inl (fun h => by have := HB.out.2 h; cases this))])
    go_wp2
    go_ret2
    rw [HS.out]
    exact ⟨_, rfl, rfl, hs1⟩
  | true =>
    have HRt : Hid (Un.Right L) := Lib.hid (HB.out.1 rfl)
    clear HB
    by_cases h1 : id < 0
    · have e1 : decide (id < 0) = true := by simpa using h1
      have HS : Hid (R = (none, 2)) := Lib.hid (by rw [HRD.out, recS, if_pos (.inr (.inl h1))])
      clear h1
      go_wp2
      go_ret2
      rw [HS.out]
      exact ⟨_, rfl, rfl, hs1⟩
    have e1 : decide (id < 0) = false := by simpa using h1
    by_cases h2 : 8 < n
    · have e2 : decide ((8 : Int) < n) = true := by simp; omega
      have HS : Hid (R = (none, 2)) := Lib.hid (by rw [HRD.out, recS, if_pos (.inr (.inr (by have := HN.out.1; omega)))])
      go_wp2
      go_ret2
      rw [HS.out]
      exact ⟨_, rfl, rfl, hs1⟩
    have e2 : decide ((8 : Int) < n) = false := by simp; omega
    have HID : Hid (0 ≤ id ∧ n ≤ 8) := Lib.hid ⟨by omega, by omega⟩
    have hn8 : n ≤ 8 := by omega
    have HS1 := Lib.hid hs1
    have hz1 := hs1.size
    clear h1 h2 hs1
    go_wp2
    go_loopw [9] (fun v9 wx => ∃ (i : Nat) (W : World), W = wx ∧ i ≤ n ∧ v9 = .int .i64 i ∧ Hid ((∀ t ∈ ops.take i, badOp t = false) ∧ W = w1)) (fun v9 _ => n - (intOf v9).toNat)
    case atStart => exact ⟨0, _, rfl, by omega, rfl, Lib.hid ⟨by simp, rfl⟩⟩
    case round =>
      obtain ⟨i, W, hW, hi, rfl, HG⟩ := hrel
      subst hW
      by_cases hin : i < n
      · have hii : (i : Int) < n := by omega
        obtain ⟨t, ht⟩ : ∃ t, ops[i]? = some t := ⟨_, List.getElem?_eq_getElem (by have := HN.out.1; omega)⟩
        obtain ⟨x, rfl, hx⟩ := HO.out.same0 HS1.out i t ht
        rw [← HG.out.2] at hx
        have x0 := hx.c0
        have x1 := hx.c1
        have HB : Hid (badOp t = true → R = (none, 2)) := Lib.hid (fun h => by
          rw [HRD.out, recS, if_neg (by rintro (h | h | h); exact h HRt.out; have := HID.out; omega; have := HID.out; have := HN.out.1; omega), if_pos ⟨t, List.mem_of_getElem? ht, h⟩])
        have HX := Lib.hid ht
        have HW : Hid (Same (fun _ => False) w W) := Lib.hid (by rw [HG.out.2]; exact HS1.out)
        clear hx ht
        by_cases h3 : t.id < 0
        · have e3 : decide (t.id < 0) = true := by simpa using h3
          have HS : Hid (R = (none, 2)) := Lib.hid (HB.out (by unfold badOp; simp [h3]))
          clear h3
          go_wp2
          go_ret2
          rw [HS.out]
          exact ⟨_, rfl, rfl, HW.out⟩
        have e3 : decide (t.id < 0) = false := by simpa using h3
        by_cases h4 : t.num < -32767
        · have e4 : decide (t.num < -32767) = true := by simpa using h4
          have HS : Hid (R = (none, 2)) := Lib.hid (HB.out (by unfold badOp okS; simp; omega))
          clear h4
          go_wp2
          go_ret2
          rw [HS.out]
          exact ⟨_, rfl, rfl, HW.out⟩
        have e4 : decide (t.num < -32767) = false := by simpa using h4
        by_cases h5 : 32767 < t.num
        · have e5 : decide (32767 < t.num) = true := by simpa using h5
          have HS : Hid (R = (none, 2)) := Lib.hid (HB.out (by unfold badOp okS; simp; omega))
          clear h5
          go_wp2
          go_ret2
          rw [HS.out]
          exact ⟨_, rfl, rfl, HW.out⟩
        have e5 : decide (32767 < t.num) = false := by simpa using h5
        have HOK : Hid (badOp t = false) := Lib.hid (by unfold badOp okS; simp; omega)
        clear h3 h4 h5
        go_wp2
        go_round
        case rel =>
          refine ⟨i + 1, _, rfl, by omega, by go_num, Lib.hid ⟨fun u hu => ?_, HG.out.2⟩⟩
          rw [List.take_add_one, HX.out] at hu
          rcases List.mem_append.1 hu with hu | hu
          · exact HG.out.1 u hu
          · simp at hu
            rw [hu]
            exact HOK.out
        case measure => simp [intOf]; omega
      · obtain rfl : i = n := by omega
        have HG2 : Hid (∀ t ∈ ops, badOp t = false) := Lib.hid (fun t ht => HG.out.1 t (by rw [HN.out.1, List.take_length]; exact ht))
        have HS : Hid (R = match Un.recL id L (ops.map opOf) with | none => (none, 132) | some l => if 64 < l.length then (none, 101) else (some l, 0)) := Lib.hid (by
          rw [HRD.out, recS, if_neg (by rintro (h | h | h); exact h HRt.out; have := HID.out; omega; have := HID.out; have := HN.out.1; omega), if_neg (by rintro ⟨t, ht, hb⟩; rw [HG2.out t ht] at hb; cases hb)]; rfl)
        have HW : Hid (Same (fun _ => False) w W) := Lib.hid (by rw [HG.out.2]; exact HS1.out)
        have hzW := HW.out.size
        obtain ⟨v2, w2, hrun, hown2, hs2⟩ := app_nil (HR.out.1.same0 HW.out) (by have := HN.out.2; omega) HR.out.2
        rw [← HN.out.2] at hrun
        have HRUN := Lib.hid hrun
        have H2 := Lib.hid (And.intro hown2 (HW.out.trans hs2))
        have hz2 := hs2.size
        clear hrun hown2 hs2 HG HRD
        go_wp2_with (at_builtin; refine wpList_append_run rfl (.tmp 54) (.tmp 55) 22 rfl _ _ rfl rfl HRUN.out ?_)
        go_loopw [10, 11, 12] (fun v10 v11 v12 wx => ∃ (j : Nat) (W2 : World) (vv : Value) (l : List Tri), W2 = wx ∧ vv = v10 ∧ j ≤ i ∧ v11 = .int .i64 j ∧ Hid (W2.ownsRow w.heap.size 45 3 vv l.length (flat3 l) ∧ Un.RightL l ∧ l.length ≤ 64 + j ∧ Un.recL id L (ops.map opOf) = Un.recL id l ((ops.drop j).map opOf) ∧ Same (fun b => w.heap.size ≤ b) w W2)) (fun _ v11 _ _ => i - (intOf v11).toNat)
        case atStart => exact ⟨0, _, _, L, rfl, rfl, by omega, rfl, Lib.hid ⟨ownsRow_base H2.out.1 hzW, ⟨HRt.out.ok, HRt.out.asc⟩, by have := HRt.out.len; omega, by simp, H2.out.2.mono (fun _ _ h => h.elim)⟩⟩
        case round =>
          obtain ⟨j, W2, v10, l, hW2, hv10, hj, rfl, HJ⟩ := hrel
          subst hW2
          subst hv10
          have hzw2 := HJ.out.2.2.2.2.size
          have hll := HJ.out.2.2.1
          obtain ⟨lo, capl, rfl, hlo, hlb, -⟩ := own_tri HJ.out.1
          have HLO := Lib.hid hlo
          obtain ⟨nl, hnl⟩ : ∃ n, n = l.length := ⟨_, rfl⟩
          rw [← hnl] at hll ⊢
          have HNl := Lib.hid hnl
          clear hlo hnl
          by_cases hjn : j < i
          · have hjj : (j : Int) < i := by omega
            obtain ⟨t, ht⟩ : ∃ t, ops[j]? = some t := ⟨_, List.getElem?_eq_getElem (by have := HN.out.1; omega)⟩
            obtain ⟨x, rfl, hx⟩ := HO.out j t ht
            have hxb := hoa x rfl
            have hx2 := hx.same HJ.out.2.2.2.2 (by rw [(add_off x _).2]; omega)
            have x0 := hx2.c0
            have x1 := hx2.c1
            have x2 := hx2.c2
            have hbad : badOp t = false := HG2.out t (List.mem_of_getElem? ht)
            have hbd : 0 ≤ t.id ∧ (-32767 ≤ t.num ∧ t.num ≤ 32767) := by
              unfold badOp okS at hbad
              simp only [Bool.or_eq_false_iff, decide_eq_false_iff_not, Bool.not_eq_false', Bool.and_eq_true, decide_eq_true_eq] at hbad
              exact ⟨by omega, hbad.2⟩
            have hofb := ofN_bound HJ.out.2.1 id t.id
            have HRQ : Hid (Un.recL id L (ops.map opOf) = Un.recL id l (opOf t :: (ops.drop (j + 1)).map opOf)) := Lib.hid (by rw [HJ.out.2.2.2.1, drop_cons ht]; rfl)
            clear hx hx2 ht hbad
            cases hfl : (bits .and .i64 t.n 2 == 0) with
            | true =>
              have HFL := Lib.hid hfl
              go_wp2
              go_round
              case rel => exact ⟨j + 1, _, _, l, rfl, by rw [HNl.out], by omega, by go_num, Lib.hid ⟨HJ.out.1, HJ.out.2.1, by have := HNl.out; omega, by rw [HRQ.out, Un.recL, if_neg (by simp [opOf, HFL.out])], HJ.out.2.2.2.2⟩⟩
              case measure => simp [intOf]; omega
            | false =>
              have HFL := Lib.hid hfl
              have hof := fun (q : Nat) => of27 (W2.drewN q) lo capl l id t.id (HLO.out.same0 ((Same.refl (fun _ => False) W2).drewN q)) (by have := HNl.out; unfold maxLen; omega)
              rw [← HNl.out] at hof
              have HOF := Lib.hid hof
              have hwr2 := wrapS hofb hbd.2
              obtain ⟨dd, hdd⟩ : ∃ dd, dd = Un.ofN l id t.id - t.num := ⟨_, rfl⟩
              rw [← hdd] at hwr2
              clear hof
              go_wp2_with fail
              go_quiet ((go_at_call 27; refine Calls.quiet_of_same (HOF.out _)))
              rw [← hdd]
              obtain ⟨W3, hW3⟩ : ∃ W3, W3 = W2.drewN nq := ⟨_, rfl⟩
              have hs23 : Same (fun _ => False) W2 W3 := by rw [hW3]; exact (Same.refl _ W2).drewN nq
              have x03 := hs23.cell x0 (fun h => h)
              have H3 := Lib.hid hs23
              have hz3 := hs23.size
              rw [← hW3]
              have HDD := Lib.hid hdd
              clear hW3 hs23 hdd x0 x1 x2
              by_cases g1 : dd < -32767
              · have f1 : decide (dd < -32767) = true := by simpa using g1
                have HR2 : Hid (R = (none, 132)) := Lib.hid (by
                  rw [HS.out, HRQ.out, Un.recL, if_pos (by simp [opOf, HFL.out]), if_pos]
                  show Un.outR (Un.ofN l id t.id - t.num)
                  rw [← HDD.out]
                  unfold Un.outR
                  omega)
                clear g1
                go_wp2
                go_ret2
                rw [HR2.out]
                exact ⟨_, rfl, rfl, (HJ.out.2.2.2.2.trans (H3.out.mono (fun _ _ h => h.elim))).mono (fun b hb h => by omega)⟩
              have f1 : decide (dd < -32767) = false := by simpa using g1
              by_cases g2 : 32767 < dd
              · have f2 : decide (32767 < dd) = true := by simpa using g2
                have HR2 : Hid (R = (none, 132)) := Lib.hid (by
                  rw [HS.out, HRQ.out, Un.recL, if_pos (by simp [opOf, HFL.out]), if_pos]
                  show Un.outR (Un.ofN l id t.id - t.num)
                  rw [← HDD.out]
                  unfold Un.outR
                  omega)
                clear g2
                go_wp2
                go_ret2
                rw [HR2.out]
                exact ⟨_, rfl, rfl, (HJ.out.2.2.2.2.trans (H3.out.mono (fun _ _ h => h.elim))).mono (fun b hb h => by omega)⟩
              have f2 : decide (32767 < dd) = false := by simpa using g2
              have HNX : Hid (Un.recL id L (ops.map opOf) = Un.recL id (Un.upd l ⟨id, t.id, dd⟩) ((ops.drop (j + 1)).map opOf) ∧ Un.RightL (Un.upd l ⟨id, t.id, dd⟩)) := Lib.hid (by
                refine ⟨?_, HJ.out.2.1.upd (fun h0 => ⟨HID.out.1, hbd.1, h0, by show -32767 ≤ dd; omega, by show dd ≤ 32767; omega⟩)⟩
                rw [HRQ.out, Un.recL, if_pos (by simp [opOf, HFL.out]), if_neg]
                · show Un.recL id (Un.upd l ⟨id, t.id, Un.ofN l id t.id - t.num⟩) _ = _
                  rw [← HDD.out]
                · show ¬ Un.outR (Un.ofN l id t.id - t.num)
                  rw [← HDD.out]
                  unfold Un.outR
                  omega)
              have hwi := with33 W3 lo capl l ⟨id, t.id, dd⟩ (HLO.out.same0 H3.out) (by have := HNl.out; omega) (fun y hy => by have := (hlb y hy).2; omega)
              rw [wrest_upd HJ.out.2.1.asc ⟨id, t.id, dd⟩, ← HNl.out] at hwi
              clear g1 g2
              go_wp2_with fail
              refine hwi.mono ?_
              rintro e W4 ⟨v4, rfl, hown4, hs4⟩
              have hul := upd_len l ⟨id, t.id, dd⟩
              have H4 := Lib.hid (And.intro hown4 (HJ.out.2.2.2.2.trans ((H3.out.trans hs4).mono (T := fun b => w.heap.size ≤ b) (fun _ _ h => h.elim))))
              clear hwi hown4 hs4
              go_wp2
              go_round
              case rel => exact ⟨j + 1, _, v4, Un.upd l ⟨id, t.id, dd⟩, rfl, rfl, by omega, by go_num, Lib.hid ⟨ownsRow_base H4.out.1 (by omega), HNX.out.2, by have := HNl.out; omega, HNX.out.1, H4.out.2⟩⟩
              case measure => simp [intOf]; omega
          · obtain rfl : j = i := by omega
            have HRL : Hid (R = if 64 < l.length then (none, 101) else (some l, 0)) := Lib.hid (by
              rw [HS.out, HJ.out.2.2.2.1, HN.out.1, List.drop_length]
              rfl)
            by_cases g64 : 64 < nl
            · have f64 : decide ((64 : Int) < nl) = true := by simp; omega
              have HR2 : Hid (R = (none, 101)) := Lib.hid (by rw [HRL.out, if_pos (by have := HNl.out; omega)])
              clear g64
              go_wp2
              go_ret2
              rw [HR2.out]
              exact ⟨_, rfl, rfl, HJ.out.2.2.2.2.mono (fun b hb h => by omega)⟩
            · have f64 : decide ((64 : Int) < nl) = false := by simp; omega
              have HR2 : Hid (R = (some l, 0)) := Lib.hid (by rw [HRL.out, if_neg (by have := HNl.out; omega)])
              clear g64
              go_wp2
              go_ret2
              rw [HR2.out]
              exact ⟨_, rfl, by have h := HJ.out.1; rw [← HNl.out] at h; rw [HNl.out] at h ⊢; exact h, HJ.out.2.2.2.2.mono (fun b hb h => by omega)⟩
end Go.Proofs.Ytcnocfboklhjnaa
