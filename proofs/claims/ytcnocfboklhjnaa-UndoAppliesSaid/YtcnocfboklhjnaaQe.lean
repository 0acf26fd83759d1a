/- undo: the reference's Apply. Conditions: the lists' lengths. -/
import Derived.Test.YtcnocfboklhjnaaQd
import Derived.Test.YtcnocfboklhjnaaOw
namespace Go.Proofs.Ytcnocfboklhjnaa
open Go.RowKit Go.Shelf
attribute [local go_sem] Oper.semAt_some

theorem step_call {P : Program} {ops : Array Oper} {o : Oper} {a : Act} {w : World} {K : Act → World → Prop} {Q : Exit → Act → World → Prop} {E : Prop} {v : Value}
    (hg : o.guard = none) (f : FuncId) (x y z : Operand) (ts : Array TypeId) (hop : o.op = Op.call { callee := Callee.value (Operand.func f), args := #[x, y, z], argTypes := ts }) (hent : ∀ args w, (callFunc f args).run P w = .ok (.enter f args) w)
    (vx vy vz : Value) (hx : a.eval x = vx) (hy : a.eval y = vy) (hz : a.eval z = vz) (hc : Calls P f #[vx, vy, vz] w fun e w' => e = .returned v ∧ w' = w) (hK : K (a.put o.dst v) w) :
    if Region.wanted o (yielded ops a.tmps) = true then Oper.wp P o a w K Q else E := by
  have hw : Region.wanted o (yielded ops a.tmps) = true := by simp [Region.wanted, hg]
  rw [if_pos hw]
  unfold Oper.wp
  have hrun : (execOp a.eval o).run P w = .ok (.enter f #[vx, vy, vz]) w := by
    have hf : a.eval (Operand.func f) = .func (.func f) #[] #[] := rfl
    simp [execOp, hop, resolve, invoke, hent, hx, hy, hz, hf, Result.andThen, Deferred.ofValue]
  rw [hrun, Oper.upon_enter]
  refine hc.mono ?_
  rintro e w' ⟨rfl, rfl⟩
  exact hK
def zOf (L : List Tri) (id : Int) (v : Int) (i : Nat) : Int := max 0 (min 32767 (IntKind.i64.wrap (v + Un.ofN L id i)))
def zsOf (L : List Tri) (id : Int) (vs : List Int) : List Int := vs.mapIdx fun i v => zOf L id v i
theorem zs_appl {L : List Tri} (h : Un.Right L) (id : Int) {vs : List Int} (hv : ∀ v ∈ vs, badV v = false) : zsOf L id vs = Un.appl L id vs := by
  unfold zsOf Un.appl
  apply List.ext_getElem?
  intro i
  rw [List.getElem?_mapIdx, List.getElem?_mapIdx]
  cases hx : vs[i]? with
  | none => rfl
  | some v =>
    simp only [Option.map_some, Option.some.injEq]
    have h1 := hv v (List.mem_of_getElem? hx)
    have h2 := ofN_bound ⟨h.ok, h.asc⟩ id i
    unfold badV at h1
    simp at h1
    unfold zOf Un.cl
    have : IntKind.i64.wrap (v + Un.ofN L id i) = v + Un.ofN L id i := by
      simp [IntKind.wrap, IntKind.bits, IntKind.signed]
      omega
    rw [this]
theorem zs_take {L : List Tri} {id : Int} {vs : List Int} {i : Nat} {v : Int} (h : vs[i]? = some v) : (zsOf L id vs).take (i + 1) = (zsOf L id vs).take i ++ [zOf L id v i] := by
  rw [List.take_add_one]
  congr 1
  unfold zsOf
  rw [List.getElem?_mapIdx, h]
  rfl
theorem app_int {w : World} {base : Nat} {v : Value} {l : List Int} (h : w.ownsRow base 3 1 v l.length (ints l)) (hl : l.length ≤ 1000) (hb : base ≤ w.heap.size) (t : Int) :
    ∃ v' w', (Builtin.append_ #[33, 33] 33 #[v, .slice (some ⟨w.heap.size, 0, none⟩) 1 1]).run Try.prog ((w.alloc (.cells #[.int .i64 t] 3)).drew) = .ok v' w' ∧
      w'.ownsRow base 3 1 v' (l ++ [t]).length (ints (l ++ [t])) ∧ Same (fun b => base ≤ b) w w' := by
  obtain ⟨i3, hi3, hz1, hz2, hz3⟩ := info3
  have hs1 : Same (fun _ => False) w ((w.alloc (.cells #[.int .i64 t] 3)).drew) := (same_alloc (W := w) _).drew
  have o1 := ownsRow_same h hs1 (fun _ _ h => h)
  obtain ⟨v', w', hrun, hown, hsame, -⟩ := run_append_same (P := Try.prog) ((w.alloc (.cells #[.int .i64 t] 3)).drew) base 33 33 3 i3 (.int .i64 0) 1 8 Try.underlying33 hi3 hz1 hz2 hz3 rfl (by decide) _ l.length _ o1
    ⟨w.heap.size, 0, none⟩ 1 1 [.int .i64 t] (by rfl) (fun j u hu => by rw [World.cell?_drew]; exact cells_new rfl hu) (by simp [Value.oneCell']) (by unfold maxLen; omega) (by omega) (by simp; omega)
  refine ⟨v', w', hrun, ?_, (hs1.mono (T := fun b => base ≤ b) (fun _ _ h => h.elim)).trans (hsame.mono (fun b _ hbk => (ownsRow_shape h hbk).1))⟩
  rw [List.length_append]
  have e : ints (l ++ [t]) = ints l ++ [.int .i64 t] := by simp [ints]
  rw [e]
  exact hown
set_option maxHeartbeats 3200000 in
set_option maxRecDepth 100000 in
theorem apply23 (w : World) (a o : Option Addr) (c co : Nat) (L : List Tri) (vs : List Int) (id : Int) (hr : TriR w a L) (ho : IntR w o vs) (hlen : L.length ≤ 1000) (hol : vs.length ≤ 900)
    (hoa : ∀ x, o = some x → x.block < w.heap.size) :
    Calls Try.prog 23 #[.slice a L.length c, .int .i64 id, .slice o vs.length co] w fun e w' =>
      ∃ v, e = .returned (.tuple #[v, .int .i64 (appS L id vs).2]) ∧ OutI w' w.heap.size v (appS L id vs).1 ∧ Same (fun _ => False) w w' := by
  obtain ⟨R, hRd⟩ : ∃ R, R = appS L id vs := ⟨_, rfl⟩
  rw [← hRd]
  have HRD := Lib.hid hRd
  have hra := right16 w a c L hr (by unfold maxLen; omega)
  have HR := Lib.hid hr
  have HO := Lib.hid ho
  obtain ⟨n, hn⟩ : ∃ n, n = vs.length := ⟨_, rfl⟩
  obtain ⟨nL, hnL⟩ : ∃ n, n = L.length := ⟨_, rfl⟩
  rw [← hn] at hol ⊢
  rw [← hnL] at hra hlen ⊢
  have HN := Lib.hid (And.intro hn hnL)
  clear hr ho hn hnL hRd
  go_enter Try.func23, Try.ntmps23
  go_wp2_with fail
  refine hra.mono ?_
  rintro e w1 ⟨b, hb, rfl, hs1⟩
  have HB := Lib.hid hb
  have HS1 := Lib.hid hs1
  have hz1 := hs1.size
  clear hb hra hs1
  go_wp2
  go_loopw [8, 9, 10] (fun v8 v9 v10 wx => ∃ (i : Nat) (W : World) (vv : Value) (d : Bool), W = wx ∧ vv = v9 ∧ v8 = .bool d ∧ i ≤ n ∧ v10 = .int .i64 i ∧ Hid ((d = true ↔ Un.Right L ∧ ∀ v ∈ vs.take i, badV v = false) ∧ W.ownsRow w.heap.size 3 1 vv ((zsOf L id vs).take i).length (ints ((zsOf L id vs).take i)) ∧ Same (fun b => w.heap.size ≤ b) w W)) (fun _ _ v10 _ => n - (intOf v10).toNat)
  case atStart => exact ⟨0, _, _, b, rfl, rfl, rfl, by omega, rfl, Lib.hid ⟨by simpa using HB.out, World.ownsRow_nil .., HS1.out.mono (fun _ _ h => h.elim)⟩⟩
  case round =>
    obtain ⟨i, W, v9, d, hW, hv9, rfl, hi, rfl, HI⟩ := hrel
    subst hW
    subst hv9
    have hzw := HI.out.2.2.size
    have hzl : ((zsOf L id vs).take i).length ≤ 1000 := by rw [List.length_take]; omega
    by_cases hin : i < n
    · have hii : (i : Int) < n := by omega
      obtain ⟨t, ht⟩ : ∃ t, vs[i]? = some t := ⟨_, List.getElem?_eq_getElem (by have := HN.out.1; omega)⟩
      obtain ⟨bb, oo, rfl, hx⟩ := HO.out i t ht
      have hbl := hoa _ rfl
      have hx2 := HI.out.2.2.cell hx (by show ¬ w.heap.size ≤ bb; simp at hbl; omega)
      have hlow : Same (fun _ => False) w W := HI.out.2.2.mono (fun b hb h => by omega)
      have hof := of27 W.drew a c L id i ((HR.out.same0 hlow).same0 (Same.refl (fun _ => False) W).drew) (by have := HN.out.2; unfold maxLen; omega)
      rw [← HN.out.2] at hof
      have HOF := Lib.hid hof
      have HT := Lib.hid ht
      have HZT := Lib.hid (zs_take (L := L) (id := id) ht)
      have hWd : Same (fun _ => False) W W.drew := (Same.refl _ W).drew
      obtain ⟨v7, w7, hrun7, ho7, hs7⟩ := app_int HI.out.2.1 hzl hzw (zOf L id t i)
      have H7 := Lib.hid (And.intro ho7 (HI.out.2.2.trans hs7))
      unfold zOf at hrun7
      obtain ⟨zz, hzz⟩ : ∃ zz, IntKind.i64.wrap (t + Un.ofN L id i) = zz := ⟨_, rfl⟩
      have hzz64 : wrap64 (t + Un.ofN L id i) = zz := by rw [← hzz]; simp [IntKind.wrap, wrap64, IntKind.bits, IntKind.signed]; omega
      rw [hzz] at hrun7
      have HRUN7 := Lib.hid hrun7
      clear hx hlow hof ht hWd hrun7 ho7 hs7
      have step : ∀ d' : Bool, (d' = true ↔ Un.Right L ∧ ∀ v ∈ vs.take (i + 1), badV v = false) → Hid ((d' = true ↔ Un.Right L ∧ ∀ v ∈ vs.take (i + 1), badV v = false) ∧ w7.ownsRow w.heap.size 3 1 v7 ((zsOf L id vs).take (i + 1)).length (ints ((zsOf L id vs).take (i + 1))) ∧ Same (fun b => w.heap.size ≤ b) w w7) := fun d' hd' =>
        Lib.hid ⟨hd', by rw [HZT.out]; exact H7.out.1, H7.out.2⟩
      have STEP := Lib.hid step
      clear step
      have hd1 : (badV t = true → ((false : Bool) = true ↔ Un.Right L ∧ ∀ v ∈ vs.take (i + 1), badV v = false)) ∧ (badV t = false → (d = true ↔ Un.Right L ∧ ∀ v ∈ vs.take (i + 1), badV v = false)) := by
        rw [List.take_add_one, HT.out]
        refine ⟨fun hb => ⟨fun h => (by cases h), fun h => ?_⟩, fun hb => ?_⟩
        · have := h.2 t (List.mem_append_right _ (by simp))
          rw [hb] at this
          cases this
        · rw [HI.out.1]
          refine ⟨fun h => ⟨h.1, fun v hv => ?_⟩, fun h => ⟨h.1, fun v hv => h.2 v (List.mem_append_left _ hv)⟩⟩
          rcases List.mem_append.1 hv with hv | hv
          · exact h.2 v hv
          · simp at hv
            rw [hv]
            exact hb
      have HD1 := Lib.hid hd1
      clear hd1
      by_cases g1 : t < 0
      · have f1 : decide (t < 0) = true := by simpa using g1
        have HBAD : Hid (badV t = true) := Lib.hid (by unfold badV; simp [g1])
        clear g1
        go_wp2
        go_region_law (first
          | (refine step_append_run
              (v' := v7) (w' := w7)
              rfl (.tmp 31) (.tmp 43) 33
              rfl
              v9 (.slice (some ⟨W.heap.size, 0, none⟩) 1 1)
              (by go_simp)
              (by go_simp)
              ?_ ?_
             with_reducible exact HRUN7.out)
          | (refine step_call
              rfl 27 (.tmp 36) (.tmp 37) (.tmp 38) #[22, 3, 3]
              rfl
              (enters_of Try.func27 (by kernel_rfl) rfl)
              (.slice a nL c) (.int .i64 id) (.int .i64 i) (by go_simp) (by go_simp) (by go_simp)
              HOF.out ?_))
        all_goals go_wp2
        all_goals exact ⟨⟨i + 1, w7, v7, false, rfl, rfl, rfl, by omega, by go_num, STEP.out false (HD1.out.1 HBAD.out)⟩, by simp [intOf]; omega⟩
      have f1 : decide (t < 0) = false := by simpa using g1
      by_cases g2 : 32767 < t
      · have f2 : decide (32767 < t) = true := by simpa using g2
        have HBAD : Hid (badV t = true) := Lib.hid (by unfold badV; simp [g2])
        clear g1 g2
        go_wp2
        go_region_law (first
          | (refine step_append_run
              (v' := v7) (w' := w7)
              rfl (.tmp 31) (.tmp 43) 33
              rfl
              v9 (.slice (some ⟨W.heap.size, 0, none⟩) 1 1)
              (by go_simp)
              (by go_simp)
              ?_ ?_
             with_reducible exact HRUN7.out)
          | (refine step_call
              rfl 27 (.tmp 36) (.tmp 37) (.tmp 38) #[22, 3, 3]
              rfl
              (enters_of Try.func27 (by kernel_rfl) rfl)
              (.slice a nL c) (.int .i64 id) (.int .i64 i) (by go_simp) (by go_simp) (by go_simp)
              HOF.out ?_))
        all_goals go_wp2
        all_goals exact ⟨⟨i + 1, w7, v7, false, rfl, rfl, rfl, by omega, by go_num, STEP.out false (HD1.out.1 HBAD.out)⟩, by simp [intOf]; omega⟩
      · have f2 : decide (32767 < t) = false := by simpa using g2
        have HBAD : Hid (badV t = false) := Lib.hid (by unfold badV; simp; omega)
        clear g1 g2
        go_wp2
        go_region_law (first
          | (refine step_append_run
              (v' := v7) (w' := w7)
              rfl (.tmp 31) (.tmp 43) 33
              rfl
              v9 (.slice (some ⟨W.heap.size, 0, none⟩) 1 1)
              (by go_simp)
              (by go_simp)
              ?_ ?_
             with_reducible exact HRUN7.out)
          | (refine step_call
              rfl 27 (.tmp 36) (.tmp 37) (.tmp 38) #[22, 3, 3]
              rfl
              (enters_of Try.func27 (by kernel_rfl) rfl)
              (.slice a nL c) (.int .i64 id) (.int .i64 i) (by go_simp) (by go_simp) (by go_simp)
              HOF.out ?_))
        all_goals go_wp2
        all_goals exact ⟨⟨i + 1, w7, v7, d, rfl, rfl, rfl, by omega, by go_num, STEP.out d (HD1.out.2 HBAD.out)⟩, by simp [intOf]; omega⟩
    · obtain rfl : i = n := by omega
      have hzs : (zsOf L id vs).length = i := by rw [HN.out.1]; simp [zsOf]
      have HZS := Lib.hid hzs
      have hiff := HI.out.1
      rw [HN.out.1, List.take_length] at hiff
      have HIFF := Lib.hid hiff
      clear hzs hiff
      cases d with
      | false =>
        have HS : Hid (R = (none, 2)) := Lib.hid (by
          rw [HRD.out, appS, if_pos]
          by_cases hR : Un.Right L
          · right
            by_cases hv : ∃ v ∈ vs, badV v = true
            · exact hv
            · exfalso
              have := HIFF.out.2 ⟨hR, fun v hvm => by
                cases hb : badV v
                · rfl
                · exact absurd ⟨v, hvm, hb⟩ hv⟩
              cases this
          · exact .inl hR)
        go_wp2
        go_ret2
        rw [HS.out]
        exact ⟨_, rfl, rfl, HI.out.2.2.mono (fun b hb h => by omega)⟩
      | true =>
        have hg := HIFF.out.1 rfl
        have HS : Hid (R = (some (zsOf L id vs), 0)) := Lib.hid (by
          rw [HRD.out, appS, if_neg (by rintro (h | ⟨v, hv, hb⟩); exact h hg.1; rw [hg.2 v hv] at hb; cases hb), zs_appl hg.1 id hg.2])
        clear hg
        go_wp2
        go_ret2
        rw [HS.out]
        refine ⟨v9, rfl, ?_, HI.out.2.2.mono (fun b hb h => by omega)⟩
        have h := HI.out.2.1
        rw [← HZS.out, List.take_length] at h
        exact h
end Go.Proofs.Ytcnocfboklhjnaa
