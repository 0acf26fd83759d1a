/- undo: what operations do to values, by the reference. Conditions: the arguments' form. -/
import Derived.Test.YtcnocfboklhjnaaSm
import Derived.Test.YtcnocfboklhjnaaRd
import Derived.Test.YtcnocfboklhjnaaAr
namespace Go.Proofs.Ytcnocfboklhjnaa
open Go.RowKit Go.Shelf
attribute [local go_sem] Oper.semAt_some

theorem wpList_append_run {P : Program} {w w' : World} {ops : Array Oper} {rest : List Oper} {o : Oper} {a : Act} {Q : Exit → Act → World → Prop} {v' : Value}
    (hg : o.guard = none) (s x : Operand) (t : TypeId) (hop : o.op = Op.call { callee := Callee.builtin Builtin.append, args := #[s, x], argTypes := #[t, t] }) (vs vx : Value) (hs : a.eval s = vs) (hx : a.eval x = vx)
    (hrun : (Builtin.append_ #[t, t] o.type #[vs, vx]).run P w = .ok v' w') (hK : wpList P ops Q rest (a.put o.dst v') w') : wpList P ops Q (o :: rest) a w := by
  refine wpList_plain hg fun K hK' => ?_
  unfold Oper.wp
  simp [execOp, hop, resolve, invoke, builtin, hs, hx, hrun, Result.andThen]
  exact hK' _ _ hK
def Vs (vs : List Int) : Prop := (1 ≤ vs.length ∧ vs.length ≤ 8) ∧ ∀ v ∈ vs, 0 ≤ v ∧ v ≤ 32767
set_option maxHeartbeats 1600000 in
theorem right38 (w : World) (a : Option Addr) (c : Nat) (vs : List Int) (hr : IntR w a vs) (hlen : vs.length ≤ maxLen) :
    Calls Try.prog 38 #[.slice a vs.length c] w fun e w' => ∃ b : Bool, (b = true ↔ Vs vs) ∧ e = .returned (.bool b) ∧ w' = w := by
  obtain ⟨B, hB⟩ : ∃ B : Bool, (B = true ↔ Vs vs) := by
    by_cases h : Vs vs
    · exact ⟨true, by simp [h]⟩
    · exact ⟨false, by simp [h]⟩
  suffices h : Calls Try.prog 38 #[.slice a vs.length c] w fun e w' => e = .returned (.bool B) ∧ w' = w from h.mono fun e w' ⟨h1, h2⟩ => ⟨B, hB, h1, h2⟩
  have HBB := Lib.hid hB
  have nB : ¬ Vs vs → B = false := fun h => by
    cases hb : B
    · rfl
    · exact absurd (hB.1 hb) h
  clear hB
  have HR := Lib.hid hr
  have hn2 : vs.length ≤ 9223372036854775807 := by unfold maxLen at hlen; omega
  obtain ⟨n, hn⟩ : ∃ n, n = vs.length := ⟨_, rfl⟩
  rw [← hn] at hn2 ⊢
  have HN := Lib.hid hn
  clear hr hn hlen
  by_cases h1 : n < 1
  · have e1 : decide ((n : Int) < 1) = true := by simp; omega
    go_enter Try.func38, Try.ntmps38
    go_wp2
    go_ret
    exact ⟨by rw [nB (fun h => by have := h.1.1; have := HN.out; omega)]; rfl, rfl⟩
  have e1 : decide ((n : Int) < 1) = false := by simp; omega
  by_cases h2 : 8 < n
  · have e2 : decide ((8 : Int) < n) = true := by simp; omega
    go_enter Try.func38, Try.ntmps38
    go_wp2
    go_ret
    exact ⟨by rw [nB (fun h => by have := h.1.2; have := HN.out; omega)]; rfl, rfl⟩
  have e2 : decide ((8 : Int) < n) = false := by simp; omega
  go_enter Try.func38, Try.ntmps38
  go_wp2
  go_loopw [3] (fun v3 wx => ∃ (i : Nat), wx = w ∧ i ≤ n ∧ v3 = .int .i64 i ∧ Hid (∀ t ∈ vs.take i, 0 ≤ t ∧ t ≤ 32767)) (fun v3 _ => n - (intOf v3).toNat)
  case atStart => exact ⟨0, rfl, by omega, rfl, Lib.hid (by simp)⟩
  case round =>
    obtain ⟨i, rfl, hi, rfl, HG⟩ := hrel
    by_cases hin : i < n
    · have hii : (i : Int) < n := by omega
      obtain ⟨t, ht⟩ : ∃ t, vs[i]? = some t := ⟨_, List.getElem?_eq_getElem (by have := HN.out; omega)⟩
      obtain ⟨b, o, rfl, hx⟩ := HR.out i t ht
      have HX := Lib.hid ht
      clear ht
      by_cases h3 : t < 0
      · have e3 : decide (t < 0) = true := by simpa using h3
        have H3 := Lib.hid h3
        clear h3
        go_wp2
        go_ret
        exact ⟨by rw [nB (fun h => by have := h.2 t (List.mem_of_getElem? HX.out); have := H3.out; omega)]; rfl, rfl⟩
      · have e3 : decide (t < 0) = false := by simpa using h3
        by_cases h4 : 32767 < t
        · have e4 : decide (32767 < t) = true := by simpa using h4
          have H4 := Lib.hid h4
          clear h4
          go_wp2
          go_ret
          exact ⟨by rw [nB (fun h => by have := h.2 t (List.mem_of_getElem? HX.out); have := H4.out; omega)]; rfl, rfl⟩
        · have e4 : decide (32767 < t) = false := by simpa using h4
          have H4 := Lib.hid (And.intro h3 h4)
          clear h3 h4
          go_wp2
          go_round
          case rel =>
            refine ⟨i + 1, trivial, by omega, by go_num, Lib.hid (fun u hu => ?_)⟩
            rw [List.take_add_one, HX.out] at hu
            rcases List.mem_append.1 hu with hu | hu
            · exact HG.out u hu
            · simp at hu
              rw [hu]
              have := H4.out
              omega
          case measure => simp [intOf]; omega
    · obtain rfl : i = n := by omega
      go_wp2
      go_ret
      refine ⟨by rw [HBB.out.2 ⟨by have := HN.out; omega, fun v hv => HG.out v (by rw [HN.out, List.take_length]; exact hv)⟩]; rfl, rfl⟩
theorem tryL_step (cur : List Int) (o : Un.Op) (r : List Un.Op) (h : 0 ≤ o.num ∧ o.num < cur.length ∧ 0 ≤ cur.getD o.num.toNat 0 + o.delta ∧ cur.getD o.num.toNat 0 + o.delta ≤ 32767) :
    Un.tryL cur (o :: r) = Un.tryL (cur.set o.num.toNat (cur.getD o.num.toNat 0 + o.delta)) r := by rw [Un.tryL, if_pos h]
/-- What is told of operations that were done. -/
structure Done (w' : World) (s : Nat) (v : Value) (vs : List Int) (ops : List Tri) (now : List Int) : Prop where
  hv : Vs vs
  len : ops.length ≤ 8
  tr : Un.tryL vs (ops.map opOf) = some now
  out : w'.ownsRow s 3 1 v now.length (ints now)
set_option maxHeartbeats 3200000 in
set_option maxRecDepth 16384 in
theorem try_any (w : World) (a o : Option Addr) (c co : Nat) (vs : List Int) (ops : List Tri) (hr : IntR w a vs) (ho : TriR w o ops) (hlen : vs.length ≤ maxLen) (hol : ops.length ≤ maxLen) (h64 : ∀ t ∈ ops, In64 t.num)
    (ha : ∀ x, a = some x → x.block < w.heap.size) (hoa : ∀ x, o = some x → x.block < w.heap.size) (hnil : a = none → vs = []) :
    Calls Try.prog 18 #[.slice a vs.length c, .slice o ops.length co] w fun e w' =>
      ∃ v n er, e = .returned (.tuple #[v, .int .i64 n, .int .i64 er]) ∧ Same (fun _ => False) w w' ∧ (er = 0 → ∃ now, Done w' w.heap.size v vs ops now) := by
  have hri := right38 w a c vs hr hlen
  have HR := Lib.hid hr
  have HO := Lib.hid ho
  have H64 := Lib.hid h64
  have HNL := Lib.hid hnil
  have hn2 : vs.length ≤ 9223372036854775807 := by unfold maxLen at hlen; omega
  have hm2 : ops.length ≤ 9223372036854775807 := by unfold maxLen at hol; omega
  obtain ⟨n, hn⟩ : ∃ n, n = vs.length := ⟨_, rfl⟩
  obtain ⟨m, hm⟩ : ∃ n, n = ops.length := ⟨_, rfl⟩
  rw [← hn] at hri hn2 ⊢
  rw [← hm] at hm2 ⊢
  have HN := Lib.hid hn
  have HM := Lib.hid hm
  clear hr ho hlen hol hn hm hnil
  go_enter Try.func18, Try.ntmps18
  go_wp2_with fail
  refine hri.mono ?_
  rintro e w1 ⟨b, hb, rfl, rfl⟩
  have HB := Lib.hid hb
  clear hb hri
  cases b with
  | false =>
    go_wp2
    refine bodyPost_ret (v := .tuple #[.slice none 0 0, .int .i64 0, .int .i64 2]) (by simp [results, Try.results18, go_sem]) rfl ⟨_, _, _, rfl, Same.refl _ _, fun h => by cases h⟩
  | true =>
    have HV : Hid (Vs vs) := Lib.hid (HB.out.1 rfl)
    have hn8 : 1 ≤ n ∧ n ≤ 8 := by have := HV.out.1; have := HN.out; omega
    clear HB
    have bad : ∀ (w' : World) (x y : Int), Same (fun _ => False) w1 w' → y ≠ 0 → ∀ e : Ending, e = .returned (.tuple #[.slice none 0 0, .int .i64 x, .int .i64 y]) → ∃ v n er, e = .returned (.tuple #[v, .int .i64 n, .int .i64 er]) ∧ Same (fun _ => False) w1 w' ∧ (er = 0 → ∃ now, Done w' w1.heap.size v vs ops now) :=
      fun w' x y hs hy e he => ⟨_, _, _, he, hs, fun h => absurd h hy⟩
    have BAD := Lib.hid bad
    clear bad
    by_cases h0 : m = 0
    · have e0 : ((m : Int) == 0) = true := by simpa using h0
      go_wp2
      exact bodyPost_ret (v := .tuple #[.slice none 0 0, .int .i64 0, .int .i64 2]) (by simp [results, Try.results18, go_sem]) rfl (BAD.out _ _ _ (Same.refl _ _) (by omega) _ rfl)
    have e0 : ((m : Int) == 0) = false := by simpa using h0
    by_cases h8 : 8 < m
    · have e8 : decide ((8 : Int) < m) = true := by simp; omega
      go_wp2
      exact bodyPost_ret (v := .tuple #[.slice none 0 0, .int .i64 0, .int .i64 130]) (by simp [results, Try.results18, go_sem]) rfl (BAD.out _ _ _ (Same.refl _ _) (by omega) _ rfl)
    have e8 : decide ((8 : Int) < m) = false := by simp; omega
    clear h0
    obtain ⟨v0, hv0⟩ : ∃ v0, vs[0]? = some v0 := ⟨_, List.getElem?_eq_getElem (by have := HN.out; omega)⟩
    obtain ⟨b0, o0, rfl, -⟩ := HR.out 0 v0 hv0
    obtain ⟨i3, hi3, hz1, hz2, hz3⟩ := info3
    obtain ⟨v', w2, hrun, hown2, hs2, -⟩ := run_append_same (P := Try.prog) w1 w1.heap.size 33 33 3 i3 (.int .i64 0) 1 8 Try.underlying33 hi3 hz1 hz2 hz3 rfl (by decide) (.slice none 0 0) 0 [] (World.ownsRow_nil ..) ⟨b0, o0, none⟩ n c (ints vs) (by have := HN.out; simp; omega) (fun j u hj => by
      rw [List.getElem?_map] at hj
      cases hx : vs[j]? with
      | none => rw [hx] at hj; cases hj
      | some x =>
        rw [hx] at hj
        cases hj
        obtain ⟨b', o', hb, hc⟩ := HR.out j x hx
        simp only [Option.some.injEq, Addr.mk.injEq, and_true] at hb
        obtain ⟨rfl, rfl⟩ := hb
        have e : (⟨b0, o0, none⟩ : Addr).add j = ⟨b0, o0 + j, none⟩ := by
          unfold Addr.add
          split
          · rename_i h; subst h; rfl
          · rfl
        rw [e]; exact hc) (fun u hu => by obtain ⟨x, _, rfl⟩ := List.mem_map.1 hu; rfl) (by unfold maxLen; omega) (by omega) (Nat.le_refl _)
    rw [Nat.zero_add] at hown2
    have hs2' : Same (fun _ => False) w1 w2 := hs2.mono (fun k _ h => by simp [Value.ownBlock] at h)
    have HA := Lib.hid (And.intro hown2 hs2')
    have HRUN := Lib.hid hrun
    have hz2 := hs2'.size
    obtain ⟨ao, cap, rfl, hao⟩ := own_row_any2 hown2
    clear hv0 hrun hown2 hs2 hs2' hi3 hz1 hz2 hz3
    go_wp2
    go_loopw [8] (fun v8 wx => ∃ (i : Nat), wx = w1 ∧ i ≤ m ∧ v8 = .int .i64 i ∧ Hid (∀ t ∈ ops.take i, 0 ≤ t.id ∧ t.id < n)) (fun v8 _ => m - (intOf v8).toNat)
    case atStart => exact ⟨0, rfl, by omega, rfl, Lib.hid (by simp)⟩
    case round =>
      obtain ⟨i, rfl, hi, rfl, HG⟩ := hrel
      by_cases hin : i < m
      · have hii : (i : Int) < m := by omega
        obtain ⟨t, ht⟩ : ∃ t, ops[i]? = some t := ⟨_, List.getElem?_eq_getElem (by have := HM.out; omega)⟩
        obtain ⟨x, rfl, hx⟩ := HO.out i t ht
        have x0 := hx.c0
        have HX := Lib.hid ht
        clear ht hx
        by_cases h3 : t.id < 0
        · have e3 : decide (t.id < 0) = true := by simpa using h3
          go_wp2
          exact bodyPost_ret (v := .tuple #[.slice none 0 0, .int .i64 0, .int .i64 131]) (by simp [results, Try.results18, go_sem]) rfl (BAD.out _ _ _ (Same.refl _ _) (by omega) _ rfl)
        have e3 : decide (t.id < 0) = false := by simpa using h3
        by_cases h4 : (n : Int) ≤ t.id
        · have e4 : decide ((n : Int) ≤ t.id) = true := by simpa using h4
          go_wp2
          exact bodyPost_ret (v := .tuple #[.slice none 0 0, .int .i64 0, .int .i64 131]) (by simp [results, Try.results18, go_sem]) rfl (BAD.out _ _ _ (Same.refl _ _) (by omega) _ rfl)
        have e4 : decide ((n : Int) ≤ t.id) = false := by simpa using h4
        have H4 := Lib.hid (And.intro h3 h4)
        clear h3 h4
        go_wp2
        go_round
        case rel =>
          refine ⟨i + 1, trivial, by omega, by go_num, Lib.hid (fun u hu => ?_)⟩
          rw [List.take_add_one, HX.out] at hu
          rcases List.mem_append.1 hu with hu | hu
          · exact HG.out u hu
          · simp at hu
            rw [hu]
            have := H4.out
            omega
        case measure => simp [intOf]; omega
      · obtain rfl : i = m := by omega
        have HK : Hid (∀ t ∈ ops, 0 ≤ t.id ∧ t.id < n) := Lib.hid (fun t ht => HG.out t (by rw [HM.out, List.take_length]; exact ht))
        go_wp2_with (at_builtin; refine wpList_append_run rfl (.tmp 47) (.tmp 48) 33 rfl _ _ rfl rfl HRUN.out ?_)
        go_loopw [10, 11, 12] (fun v10 v11 v12 wx => ∃ (j : Nat) (W : World) (cur : List Int), W = wx ∧ j ≤ i ∧ v10 = .int .i64 j ∧ Hid (Un.tryL vs (ops.map opOf) = Un.tryL cur ((ops.drop j).map opOf) ∧ (∀ v ∈ cur, 0 ≤ v ∧ v ≤ 32767) ∧ W.ownsRow wr.heap.size 3 1 (.slice ao n cap) n (ints cur) ∧ Same (fun b => wr.heap.size ≤ b) wr W)) (fun v10 _ _ _ => i - (intOf v10).toNat)
        case atStart => exact ⟨0, _, vs, rfl, by omega, rfl, Lib.hid ⟨by simp, HV.out.2, HA.out.1, HA.out.2.mono (fun _ _ h => h.elim)⟩⟩
        case round =>
          obtain ⟨j, W, cur, hW, hj, rfl, HI⟩ := hrel
          subst hW
          have hzw := HI.out.2.2.2.size
          have hcl : cur.length = n := by have := HI.out.2.2.1.1; simpa using this
          by_cases hjn : j < i
          · have hii : (j : Int) < i := by omega
            obtain ⟨t, ht⟩ : ∃ t, ops[j]? = some t := ⟨_, List.getElem?_eq_getElem (by have := HM.out; omega)⟩
            obtain ⟨x, rfl, hx⟩ := HO.out j t ht
            have hxb := hoa x rfl
            have hx2 := hx.same HI.out.2.2.2 (by rw [(add_off x _).2]; omega)
            have x0 := hx2.c0
            have x1 := hx2.c1
            have x2 := hx2.c2
            have hk := HK.out t (List.mem_of_getElem? ht)
            have h6 := H64.out t (List.mem_of_getElem? ht)
            unfold In64 at h6
            obtain ⟨k, hkk⟩ : ∃ k : Nat, t.id = k := ⟨t.id.toNat, by omega⟩
            obtain ⟨g, rfl⟩ := hao (by omega)
            obtain ⟨y, hy⟩ : ∃ y, cur[k]? = some y := ⟨_, List.getElem?_eq_getElem (by omega)⟩
            have hyb := HI.out.2.1 y (List.mem_of_getElem? hy)
            have d0 : W.cell? ⟨g, k, none⟩ = some (.int .i64 y) := by
              rw [HI.out.2.2.1.cellAt k (by omega), List.getElem?_map, hy]; rfl
            have d1 := HI.out.2.2.1.frozenAt k
            rw [hkk] at x0
            have hgb : wr.heap.size ≤ g ∧ g < W.heap.size := ⟨(ownsRow_shape HI.out.2.2.1 rfl).1, (ownsRow_shape HI.out.2.2.1 rfl).2.1⟩
            have hkn : (k : Int) < n := by omega
            have hkn2 : k < n := by omega
            have hst := HI.out.2.2.1.stored k (.int .i64 (y + t.num))
            have HST := Lib.hid hst.1
            have NX : Hid ((0 ≤ y + t.num ∧ y + t.num ≤ 32767) → Un.tryL vs (ops.map opOf) = Un.tryL (cur.set k (y + t.num)) ((ops.drop (j + 1)).map opOf) ∧ ∀ v ∈ cur.set k (y + t.num), 0 ≤ v ∧ v ≤ 32767) := Lib.hid (fun hb => by
              refine ⟨?_, fun v hv => ?_⟩
              · have hg : cur.getD k 0 = y := by rw [List.getD_eq_getElem?_getD, hy]; rfl
                have hkt : t.id.toNat = k := by omega
                rw [HI.out.1, drop_cons ht, List.map_cons, tryL_step _ _ _ (by show 0 ≤ t.id ∧ t.id < cur.length ∧ 0 ≤ cur.getD t.id.toNat 0 + t.num ∧ cur.getD t.id.toNat 0 + t.num ≤ 32767; rw [hkt, hg]; exact ⟨by omega, by rw [hcl]; omega, hb.1, hb.2⟩)]
                show Un.tryL (cur.set t.id.toNat (cur.getD t.id.toNat 0 + t.num)) _ = _
                rw [hkt, hg]
              · rcases List.mem_or_eq_of_mem_set hv with hv | rfl
                · exact HI.out.2.1 v hv
                · exact hb)
            have hsw : Same (fun _ => False) wr W := HI.out.2.2.2.mono (fun b hb h => by omega)
            have HSW := Lib.hid hsw
            clear hx hx2 ht hy hst hkk hk hsw
            by_cases h1 : 32767 - y < t.num
            · have e1 : decide (32767 - y < t.num) = true := by simpa using h1
              clear h1
              go_wp2
              exact bodyPost_ret (v := .tuple #[.slice none 0 0, .int .i64 j, .int .i64 132]) (by simp [results, Try.results18, go_sem]) rfl (BAD.out _ _ _ HSW.out (by omega) _ rfl)
            have e1 : decide (32767 - y < t.num) = false := by simpa using h1
            by_cases h2 : t.num < 0
            · have e2 : decide (t.num < 0) = true := by simpa using h2
              by_cases h3 : t.num < -y
              · have e3 : decide (t.num < -y) = true := by simpa using h3
                clear h1 h2 h3
                go_wp2
                all_goals first
                  | (refine bodyPost_ret (v := .tuple #[.slice none 0 0, .int .i64 j, .int .i64 63]) ?_ rfl (BAD.out _ _ _ HSW.out (by omega) _ rfl); simp [results, Try.results18, go_sem]; done)
                  | (refine bodyPost_ret (v := .tuple #[.slice none 0 0, .int .i64 j, .int .i64 133]) ?_ rfl (BAD.out _ _ _ HSW.out (by omega) _ rfl); simp [results, Try.results18, go_sem]; done)
              · have e3 : decide (t.num < -y) = false := by simpa using h3
                have e4 : (t.num == 0) = false := by simp; omega
                have hb : 0 ≤ y + t.num ∧ y + t.num ≤ 32767 := by omega
                clear h1 h2 h3
                go_wp2
                go_round
                case rel =>
                  refine ⟨j + 1, _, cur.set k (y + t.num), rfl, by omega, by go_num, Lib.hid ⟨(NX.out hb).1, (NX.out hb).2, ?_, HI.out.2.2.2.trans ((Same.refl _ W).setCell (a := ⟨g, k, none⟩) _ (.inr (by show wr.heap.size ≤ g; omega)))⟩⟩
                  have h := HST.out
                  rw [← List.map_set] at h
                  exact h
                case measure => simp [intOf]; omega
            · have e2 : decide (t.num < 0) = false := by simpa using h2
              by_cases h3 : t.num = 0
              · have e3 : (t.num == 0) = true := by simpa using h3
                by_cases h4 : y = 0
                · have e4 : (y == 0) = true := by simpa using h4
                  have hb : 0 ≤ y + t.num ∧ y + t.num ≤ 32767 := by omega
                  clear h1 h2 h3 h4
                  go_wp2
                  go_round
                  case rel =>
                    refine ⟨j + 1, _, cur.set k (y + t.num), rfl, by omega, by go_num, Lib.hid ⟨(NX.out hb).1, (NX.out hb).2, ?_, HI.out.2.2.2.trans ((Same.refl _ W).setCell (a := ⟨g, k, none⟩) _ (.inr (by show wr.heap.size ≤ g; omega)))⟩⟩
                    have h := HST.out
                    rw [← List.map_set] at h
                    exact h
                  case measure => simp [intOf]; omega
                · have e4 : (y == 0) = false := by simpa using h4
                  clear h1 h2 h3
                  go_wp2
                  all_goals first
                    | (refine bodyPost_ret (v := .tuple #[.slice none 0 0, .int .i64 j, .int .i64 63]) ?_ rfl (BAD.out _ _ _ HSW.out (by omega) _ rfl); simp [results, Try.results18, go_sem]; done)
                    | (refine bodyPost_ret (v := .tuple #[.slice none 0 0, .int .i64 j, .int .i64 133]) ?_ rfl (BAD.out _ _ _ HSW.out (by omega) _ rfl); simp [results, Try.results18, go_sem]; done)
              · have e3 : (t.num == 0) = false := by simpa using h3
                have hb : 0 ≤ y + t.num ∧ y + t.num ≤ 32767 := by omega
                clear h1 h2 h3
                go_wp2
                go_round
                case rel =>
                  refine ⟨j + 1, _, cur.set k (y + t.num), rfl, by omega, by go_num, Lib.hid ⟨(NX.out hb).1, (NX.out hb).2, ?_, HI.out.2.2.2.trans ((Same.refl _ W).setCell (a := ⟨g, k, none⟩) _ (.inr (by show wr.heap.size ≤ g; omega)))⟩⟩
                  have h := HST.out
                  rw [← List.map_set] at h
                  exact h
                case measure => simp [intOf]; omega
          · obtain rfl : j = i := by omega
            go_wp2
            exact bodyPost_ret (v := .tuple #[.slice ao n cap, .int .i64 0, .int .i64 0]) (by simp [results, Try.results18, go_sem]) rfl ⟨_, _, _, rfl, HI.out.2.2.2.mono (fun b hb h => by omega), fun _ => ⟨cur, HV.out, by have := HM.out; omega, by rw [HI.out.1, HM.out, List.drop_length]; rfl, by rw [hcl]; exact HI.out.2.2.1⟩⟩
end Go.Proofs.Ytcnocfboklhjnaa
