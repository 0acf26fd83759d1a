/- undo: the reference's Clear, Ids. Conditions: the list's length. -/
import Derived.Test.YtcnocfboklhjnaaQe
namespace Go.Proofs.Ytcnocfboklhjnaa
open Go.RowKit Go.Shelf
attribute [local go_sem] Oper.semAt_some

set_option maxHeartbeats 3200000 in
set_option maxRecDepth 16384 in
theorem clear24 (w : World) (a : Option Addr) (c : Nat) (L : List Tri) (id num : Int) (hr : TriR w a L) (hlen : L.length ≤ 900) (ha : ∀ x, a = some x → x.block < w.heap.size) :
    Calls Try.prog 24 #[.slice a L.length c, .int .i64 id, .int .i64 num] w fun e w' =>
      ∃ v, e = .returned (.tuple #[v, .int .i64 (clrS L id num).2]) ∧ OutL w' w.heap.size v (clrS L id num).1 ∧ Same (fun _ => False) w w' := by
  obtain ⟨R, hRd⟩ : ∃ R, R = clrS L id num := ⟨_, rfl⟩
  rw [← hRd]
  have HRD := Lib.hid hRd
  have hra := right16 w a c L hr (by unfold maxLen; omega)
  have HR := Lib.hid hr
  obtain ⟨n, hn⟩ : ∃ n, n = L.length := ⟨_, rfl⟩
  rw [← hn] at hra hlen ⊢
  have HN := Lib.hid hn
  clear hr hn hRd
  go_enter Try.func24, Try.ntmps24
  go_wp2_with fail
  refine hra.mono ?_
  rintro e w1 ⟨b, hb, rfl, hs1⟩
  have HB := Lib.hid hb
  have HS1 := Lib.hid hs1
  have hz1 := hs1.size
  clear hb hra hs1
  cases b with
  | false =>
    have HS : Hid (R = (none, 2)) := Lib.hid (by rw [HRD.out, clrS, if_neg (fun h => by have := HB.out.2 h; cases this)])
    go_wp2
    go_ret2
    rw [HS.out]
    exact ⟨_, rfl, rfl, HS1.out⟩
  | true =>
    have HS : Hid (R = (some (L.filter (keep id num)), 0)) := Lib.hid (by rw [HRD.out, clrS, if_pos (HB.out.1 rfl)]; rfl)
    go_wp2
    go_loopw [9, 10] (fun v9 v10 wx => ∃ (i : Nat) (W : World) (vv : Value), W = wx ∧ vv = v9 ∧ i ≤ n ∧ v10 = .int .i64 i ∧ Hid (W.ownsRow w.heap.size 45 3 vv ((L.take i).filter (keep id num)).length (flat3 ((L.take i).filter (keep id num))) ∧ Same (fun b => w.heap.size ≤ b) w W)) (fun _ v10 _ => n - (intOf v10).toNat)
    case atStart => exact ⟨0, _, _, rfl, rfl, by omega, rfl, Lib.hid ⟨World.ownsRow_nil .., HS1.out.mono (fun _ _ h => h.elim)⟩⟩
    case round =>
      obtain ⟨i, W, v9, hW, hv9, hi, rfl, HI⟩ := hrel
      subst hW
      subst hv9
      have hzw := HI.out.2.size
      by_cases hin : i < n
      · have hii : (i : Int) < n := by omega
        obtain ⟨t, ht⟩ : ∃ t, L[i]? = some t := ⟨_, List.getElem?_eq_getElem (by have := HN.out; omega)⟩
        obtain ⟨x, rfl, hx⟩ := HR.out i t ht
        have hxb := ha x rfl
        have hx2 := hx.same HI.out.2 (by rw [(add_off x _).2]; omega)
        have x0 := hx2.c0
        have x1 := hx2.c1
        have x2 := hx2.c2
        have HST : Hid ((L.take (i + 1)).filter (keep id num) = (L.take i).filter (keep id num) ++ (if delP id num t then [] else [t])) := Lib.hid (by
          rw [List.take_add_one, ht, List.filter_append]
          congr 1
          cases h : delP id num t <;> simp [keep, h])
        have hol : ((L.take i).filter (keep id num)).length ≤ 1000 := by
          have := List.length_filter_le (keep id num) (L.take i)
          rw [List.length_take] at this
          omega
        obtain ⟨v7, w7, hrun7, ho7, hs7⟩ := app_tri HI.out.1 hol hzw t
        have H7 := Lib.hid (And.intro ho7 (HI.out.2.trans hs7))
        have HRUN7 := Lib.hid hrun7
        clear hx hx2 ht hrun7 ho7 hs7
        have stay : delP id num t = true → Hid (W.ownsRow w.heap.size 45 3 v9 ((L.take (i + 1)).filter (keep id num)).length (flat3 ((L.take (i + 1)).filter (keep id num))) ∧ Same (fun b => w.heap.size ≤ b) w W) := fun h => Lib.hid (by
          rw [HST.out, h]
          simpa using HI.out)
        have more : delP id num t = false → Hid (w7.ownsRow w.heap.size 45 3 v7 ((L.take (i + 1)).filter (keep id num)).length (flat3 ((L.take (i + 1)).filter (keep id num))) ∧ Same (fun b => w.heap.size ≤ b) w w7) := fun h => Lib.hid (by
          rw [HST.out, h]
          exact H7.out)
        have STAY := Lib.hid stay
        have MORE := Lib.hid more
        clear stay more
        by_cases h1 : t.id = id
        · have e1 : (t.id == id) = true := by simpa using h1
          have g1 : (t.id != id) = false := by simpa using h1
          by_cases h2 : 0 ≤ num
          · have e2 : decide (0 ≤ num) = true := by simpa using h2
            by_cases h3 : t.num = num
            · have e3 : (t.num == num) = true := by simpa using h3
              have g3 : (t.num != num) = false := by simpa using h3
              have HP := Lib.hid (show delP id num t = true by unfold delP; simp [h1, h3])
              clear h1 h2 h3
              go_wp2
              go_round
              case rel => exact ⟨i + 1, _, _, rfl, rfl, by omega, by go_num, STAY.out HP.out⟩
              case measure => simp [intOf]; omega
            · have e3 : (t.num == num) = false := by simpa using h3
              have g3 : (t.num != num) = true := by simpa using h3
              have HP := Lib.hid (show delP id num t = false by unfold delP; simp [h3]; omega)
              clear h1 h2 h3
              go_wp2_with (at_builtin; refine wpList_append_run rfl (.tmp 41) (.tmp 46) 22 rfl _ _ rfl rfl HRUN7.out ?_)
              go_round
              case rel => exact ⟨i + 1, w7, v7, rfl, rfl, by omega, by go_num, MORE.out HP.out⟩
              case measure => simp [intOf]; omega
          · have e2 : decide (0 ≤ num) = false := by simpa using h2
            have HP := Lib.hid (show delP id num t = true by unfold delP; simp [h1]; omega)
            clear h1 h2
            go_wp2
            go_round
            case rel => exact ⟨i + 1, _, _, rfl, rfl, by omega, by go_num, STAY.out HP.out⟩
            case measure => simp [intOf]; omega
        · have e1 : (t.id == id) = false := by simpa using h1
          have g1 : (t.id != id) = true := by simpa using h1
          have HP := Lib.hid (show delP id num t = false by unfold delP; simp [h1])
          clear h1
          go_wp2_with (at_builtin; refine wpList_append_run rfl (.tmp 41) (.tmp 46) 22 rfl _ _ rfl rfl HRUN7.out ?_)
          go_round
          case rel => exact ⟨i + 1, w7, v7, rfl, rfl, by omega, by go_num, MORE.out HP.out⟩
          case measure => simp [intOf]; omega
      · obtain rfl : i = n := by omega
        go_wp2
        go_ret2
        rw [HS.out]
        refine ⟨v9, rfl, ?_, HI.out.2.mono (fun b hb h => by omega)⟩
        have h := HI.out.1
        rw [HN.out, List.take_length] at h
        exact h
/-- Whose they are. -/
def idsU : Option Int → List Tri → List Int
  | _, [] => []
  | p, t :: l => (if p = some t.id then [] else [t.id]) ++ idsU (some t.id) l
theorem idsU_len : ∀ (l : List Tri) (p : Option Int), (idsU p l).length ≤ l.length
  | [], _ => Nat.le_refl _
  | t :: l, p => by
    have := idsU_len l (some t.id)
    rw [idsU, List.length_append, List.length_cons]
    split <;> simp <;> omega
/-- Whose the one ahead is. -/
def prevId (L : List Tri) : Nat → Option Int
  | 0 => none
  | k + 1 => (L[k]?).map (·.id)
open Classical in
noncomputable def idsS (L : List Tri) : List Int := if Un.Right L then idsU none L else []
theorem app_int0 {w : World} {base : Nat} {v : Value} {l : List Int} (h : w.ownsRow base 3 1 v l.length (ints l)) (hl : l.length ≤ 1000) (hb : base ≤ w.heap.size) (t : Int) :
    ∃ v' w', (Builtin.append_ #[33, 33] 33 #[v, .slice (some ⟨w.heap.size, 0, none⟩) 1 1]).run Try.prog (w.alloc (.cells #[.int .i64 t] 3)) = .ok v' w' ∧
      w'.ownsRow base 3 1 v' (l ++ [t]).length (ints (l ++ [t])) ∧ Same (fun b => base ≤ b) w w' := by
  obtain ⟨i3, hi3, hz1, hz2, hz3⟩ := info3
  have hs1 : Same (fun _ => False) w (w.alloc (.cells #[.int .i64 t] 3)) := same_alloc _
  have o1 := ownsRow_same h hs1 (fun _ _ h => h)
  obtain ⟨v', w', hrun, hown, hsame, -⟩ := run_append_same (P := Try.prog) (w.alloc (.cells #[.int .i64 t] 3)) base 33 33 3 i3 (.int .i64 0) 1 8 Try.underlying33 hi3 hz1 hz2 hz3 rfl (by decide) _ l.length _ o1
    ⟨w.heap.size, 0, none⟩ 1 1 [.int .i64 t] (by rfl) (fun j u hu => cells_new rfl hu) (by simp [Value.oneCell']) (by unfold maxLen; omega) (by omega) (by simp; omega)
  refine ⟨v', w', hrun, ?_, (hs1.mono (T := fun b => base ≤ b) (fun _ _ h => h.elim)).trans (hsame.mono (fun b _ hbk => (ownsRow_shape h hbk).1))⟩
  rw [List.length_append]
  have e : ints (l ++ [t]) = ints l ++ [.int .i64 t] := by simp [ints]
  rw [e]
  exact hown
set_option maxHeartbeats 3200000 in
set_option maxRecDepth 16384 in
theorem ids26 (w : World) (a : Option Addr) (c : Nat) (L : List Tri) (hr : TriR w a L) (hlen : L.length ≤ 900) (ha : ∀ x, a = some x → x.block < w.heap.size) :
    Calls Try.prog 26 #[.slice a L.length c] w fun e w' => ∃ v, e = .returned v ∧ w'.ownsRow w.heap.size 3 1 v (idsS L).length (ints (idsS L)) ∧ Same (fun _ => False) w w' := by
  obtain ⟨R, hRd⟩ : ∃ R, R = idsS L := ⟨_, rfl⟩
  rw [← hRd]
  have HRD := Lib.hid hRd
  have hra := right16 w a c L hr (by unfold maxLen; omega)
  have HR := Lib.hid hr
  obtain ⟨n, hn⟩ : ∃ n, n = L.length := ⟨_, rfl⟩
  rw [← hn] at hra hlen ⊢
  have HN := Lib.hid hn
  clear hr hn hRd
  go_enter Try.func26, Try.ntmps26
  go_wp2_with fail
  refine hra.mono ?_
  rintro e w1 ⟨b, hb, rfl, hs1⟩
  have HB := Lib.hid hb
  have HS1 := Lib.hid hs1
  have hz1 := hs1.size
  clear hb hra hs1
  cases b with
  | false =>
    have HS : Hid (R = []) := Lib.hid (by rw [HRD.out, idsS, if_neg (fun h => by have := HB.out.2 h; cases this)])
    go_wp2
    go_ret
    rw [HS.out]
    exact ⟨_, rfl, World.ownsRow_nil .., HS1.out⟩
  | true =>
    have HS : Hid (R = idsU none L) := Lib.hid (by rw [HRD.out, idsS, if_pos (HB.out.1 rfl)])
    have hRl : R.length ≤ n := by rw [HS.out, HN.out]; exact idsU_len L none
    go_wp2
    go_loopw [4, 5] (fun v4 v5 wx => ∃ (i : Nat) (W : World) (vv : Value) (out : List Int), W = wx ∧ vv = v4 ∧ i ≤ n ∧ v5 = .int .i64 i ∧ Hid (out ++ idsU (prevId L i) (L.drop i) = R ∧ W.ownsRow w.heap.size 3 1 vv out.length (ints out) ∧ Same (fun b => w.heap.size ≤ b) w W)) (fun _ v5 _ => n - (intOf v5).toNat)
    case atStart => exact ⟨0, _, _, [], rfl, rfl, by omega, rfl, Lib.hid ⟨by rw [HS.out]; rfl, World.ownsRow_nil .., HS1.out.mono (fun _ _ h => h.elim)⟩⟩
    case round =>
      obtain ⟨i, W, v4, out, hW, hv4, hi, rfl, HI⟩ := hrel
      subst hW
      subst hv4
      have hzw := HI.out.2.2.size
      have hol : out.length ≤ 1000 := by have h := congrArg List.length HI.out.1; simp only [List.length_append] at h; omega
      by_cases hin : i < n
      · have hii : (i : Int) < n := by omega
        obtain ⟨t, ht⟩ : ∃ t, L[i]? = some t := ⟨_, List.getElem?_eq_getElem (by have := HN.out; omega)⟩
        obtain ⟨x, rfl, hx⟩ := HR.out i t ht
        have hxb := ha x rfl
        have hx2 := hx.same HI.out.2.2 (by rw [(add_off x _).2]; omega)
        have x0 := hx2.c0
        have HST : Hid (out ++ ((if prevId L i = some t.id then [] else [t.id]) ++ idsU (prevId L (i + 1)) (L.drop (i + 1))) = R) := Lib.hid (by
          have h := HI.out.1
          rw [drop_cons ht, idsU] at h
          rw [show prevId L (i + 1) = some t.id by rw [prevId, ht]; rfl]
          exact h)
        have step7 := fun (q : Nat) => app_int0 (ownsRow_same HI.out.2.1 ((Same.refl (fun _ => False) W).drewN q) (fun _ _ h => h)) hol (show w.heap.size ≤ (W.drewN q).heap.size from hzw) t.id
        have HT := Lib.hid ht
        have STEP7 := Lib.hid step7
        clear hx hx2 ht step7
        by_cases h0 : i = 0
        · have d0 : ((i : Int) == 0) = true := by simp; omega
          have HNE : Hid (out ++ [t.id] ++ idsU (prevId L (i + 1)) (L.drop (i + 1)) = R) := Lib.hid (by
            have h := HST.out
            rw [if_neg (by rw [h0]; simp [prevId])] at h
            rw [List.append_assoc]
            exact h)
          clear h0
          go_wp2
          go_quiet (fail)
          obtain ⟨v7, w7, hrun7, ho7, hs7⟩ := STEP7.out nq
          have H7 := Lib.hid (And.intro ho7 ((HI.out.2.2.drewN nq).trans hs7))
          have HRUN7 := Lib.hid hrun7
          clear hrun7 ho7 hs7
          go_wp2_with (at_builtin; refine wpList_append_run rfl (.tmp 32) (.tmp 38) 33 rfl _ _ rfl rfl HRUN7.out ?_)
          go_round
          case rel => exact ⟨i + 1, w7, v7, out ++ [t.id], rfl, rfl, by omega, by go_num, Lib.hid ⟨HNE.out, H7.out⟩⟩
          case measure => simp [intOf]; omega
        · have d0 : ((i : Int) == 0) = false := by simp; omega
          obtain ⟨k, hk⟩ : ∃ k : Nat, (i : Int) - 1 = k := ⟨i - 1, by omega⟩
          have hkn : (k : Int) < n := by omega
          have hkw2 : IntKind.i64.wrap (k : Int) = k := by simp [IntKind.wrap, IntKind.bits, IntKind.signed]; omega
          obtain ⟨p, hp⟩ : ∃ p, L[k]? = some p := ⟨_, List.getElem?_eq_getElem (by have := HN.out; omega)⟩
          obtain ⟨y, hy1, hy⟩ := HR.out k p hp
          cases hy1
          have hy2 := hy.same HI.out.2.2 (by rw [(add_off x _).2]; omega)
          have y0 := hy2.c0
          have HPV : Hid (prevId L i = some p.id) := Lib.hid (by
            obtain rfl : i = k + 1 := by omega
            rw [prevId, hp]
            rfl)
          clear hy hy2 hp h0
          by_cases h1 : t.id = p.id
          · have e1 : (t.id == p.id) = true := by simpa using h1
            have g1 : (t.id != p.id) = false := by simpa using h1
            have HEQ : Hid (out ++ idsU (prevId L (i + 1)) (L.drop (i + 1)) = R) := Lib.hid (by
              have h := HST.out
              rw [if_pos (by rw [HPV.out, h1])] at h
              exact h)
            clear h1
            go_wp2
            go_quiet (fail)
            go_wp2
            go_round
            case rel => exact ⟨i + 1, _, _, out, rfl, rfl, by omega, by go_num, Lib.hid ⟨HEQ.out, ownsRow_same HI.out.2.1 ((Same.refl (fun _ => False) W).drewN nq) (fun _ _ h => h), HI.out.2.2.drewN nq⟩⟩
            case measure => simp [intOf]; omega
          · have e1 : (t.id == p.id) = false := by simpa using h1
            have g1 : (t.id != p.id) = true := by simpa using h1
            have HNE : Hid (out ++ [t.id] ++ idsU (prevId L (i + 1)) (L.drop (i + 1)) = R) := Lib.hid (by
              have h := HST.out
              rw [if_neg (by rw [HPV.out]; simp only [Option.some.injEq]; exact fun e => h1 e.symm)] at h
              rw [List.append_assoc]
              exact h)
            clear h1
            go_wp2
            go_quiet (fail)
            obtain ⟨v7, w7, hrun7, ho7, hs7⟩ := STEP7.out nq
            have H7 := Lib.hid (And.intro ho7 ((HI.out.2.2.drewN nq).trans hs7))
            have HRUN7 := Lib.hid hrun7
            clear hrun7 ho7 hs7
            go_wp2_with (at_builtin; refine wpList_append_run rfl (.tmp 32) (.tmp 38) 33 rfl _ _ rfl rfl HRUN7.out ?_)
            go_round
            case rel => exact ⟨i + 1, w7, v7, out ++ [t.id], rfl, rfl, by omega, by go_num, Lib.hid ⟨HNE.out, H7.out⟩⟩
            case measure => simp [intOf]; omega
      · obtain rfl : i = n := by omega
        have heq : out = R := by
          have h := HI.out.1
          rw [HN.out, List.drop_length, idsU, List.append_nil] at h
          exact h
        subst heq
        go_wp2
        go_ret
        exact ⟨v4, rfl, HI.out.2.1, HI.out.2.2.mono (fun b hb h => by omega)⟩
end Go.Proofs.Ytcnocfboklhjnaa
