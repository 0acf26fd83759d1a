/- undo: Ids. Conditions: the list's length. -/
import Derived.Test.YtcnocfboklhjnaaQf
import Derived.Test.YtcnocfboklhjnaaPa
import Derived.Stop.RegionWithIn
namespace Go.Proofs.Ytcnocfboklhjnaa
open Go.RowKit Go.Shelf Go.Lib Go.Sort
attribute [local go_sem] Oper.semAt_some

set_option maxHeartbeats 800000 in
theorem pairs2 (l bx : Nat) (a : Option Addr) (c : Nat) (L : List Tri) (J : Nat → World → Prop) (Jx : World → Prop) (w : World)
    (hb : w.cell? ⟨bx, 0, none⟩ = some (.slice a L.length c)) (hr : TriR w a L) (hlen : L.length ≤ maxLen) (ha : ∀ x, a = some x → x.block < w.heap.size)
    (hJ : ∀ i W W', J i W → Same (· = w.heap.size) W W' → J i W')
    (hy : ∀ i t W, J i W → L[i]? = some t → w.heap.size < W.heap.size → (∃ k, W.shape? (W.heap.size - 1) = some (45, k)) → YieldAt Fence.wide 0 Try.prog l #[kvp (oldK L i), tv t] W fun e W' =>
      ((e = .returned (.bool true) ∧ J (i + 1) W') ∨ (e = .returned (.bool false) ∧ Jx W')) ∧ FrR w.heap.size a W W')
    (h0 : J 0 w) :
    Calls Try.prog 47 #[.func (.yield l) #[] #[], .pointer (some ⟨bx, 0, none⟩)] w fun e W' => (∃ v, e = .returned v) ∧ (J L.length W' ∨ Jx W') := by
  obtain ⟨n, hn⟩ : ∃ n, n = L.length := ⟨_, rfl⟩
  rw [← hn] at hb hlen ⊢
  have HN := Lib.hid hn
  have HR := Lib.hid hr
  have hsA : Same (fun _ => False) w (w.alloc (.cells #[.int .i64 (-1), .int .i64 (-1)] 58)) := same_alloc _
  have hJ0 := hJ 0 w _ h0 (hsA.mono (fun _ _ h => h.elim))
  have hn2 : n ≤ 9223372036854775807 := by unfold maxLen at hlen; omega
  have hbx := World.block_lt_of_cell? _ _ hb
  have hbA := hsA.cell hb (fun h => h)
  clear hr hn h0 hlen
  refine (callsIn_wide (n := 0)).1 ?_
  refine callsIn_of_wp Try.func47 rfl trivial ?_ rfl
  simp only [Try.ntmps47, List.size_toArray, List.length_cons, List.length_nil, Nat.reduceAdd, Nat.reduceSub, Array.replicate_succ, Array.replicate_zero, List.push_toArray, List.append_toArray, List.nil_append, List.cons_append]
  gi_wp2
  gi_loopw [9] (fun v9 wr => ∃ i : Nat, i ≤ n ∧ v9 = .int .i64 i ∧ w.heap.size < wr.heap.size ∧ wr.cell? ⟨w.heap.size, 0, none⟩ = some (.int .i64 (oldK L i).1) ∧ wr.cell? ⟨w.heap.size, 1, none⟩ = some (.int .i64 (oldK L i).2) ∧
      wr.frozen? ⟨w.heap.size, 0, none⟩ = false ∧ wr.frozen? ⟨w.heap.size, 1, none⟩ = false ∧ TriR wr a L ∧ J i wr) (fun v9 _ => n - (intOf v9).toNat)
  case atStart => exact ⟨0, by omega, rfl, by simp, by simp [go_sem, oldK], by simp [go_sem, oldK], by simp [go_sem], by simp [go_sem], HR.out.same0 hsA, hJ0⟩
  case round =>
    obtain ⟨i, hi, rfl, hsz, c0, c1, f0, f1, hr, hJs⟩ := hrel
    by_cases hlt : i < n
    · have hlt' : (i : Int) < n := by omega
      obtain ⟨t, ht⟩ : ∃ t, L[i]? = some t := ⟨_, List.getElem?_eq_getElem (by have := HN.out; omega)⟩
      obtain ⟨x, rfl, hx⟩ := hr i t ht
      have x0 := hx.c0
      have x1 := hx.c1
      have x2 := hx.c2
      have HR2 := Lib.hid hr
      have HT := Lib.hid ht
      have hxb := ha x rfl
      clear hx hr ht
      have hsB : Same (fun _ => False) wr (wr.alloc (.cells #[.int .i64 t.id, .int .i64 t.num, .int .i64 t.n] 45)) := same_alloc _
      have hJ1 := hJ i _ _ hJs (hsB.mono (fun _ _ h => h.elim))
      have hgr : w.heap.size < (wr.alloc (.cells #[.int .i64 t.id, .int .i64 t.num, .int .i64 t.n] 45)).heap.size := by simp; omega
      obtain ⟨fn, tmps, assign, body, hye, hR⟩ := hy i t _ hJ1 HT.out hgr ⟨_, by unfold World.shape?; simp only [World.size_alloc, Nat.add_sub_cancel]; rw [World.alloc_heap_new]⟩
      gi_wp2
      refine hR.mono ?_
      rintro e W3 ⟨⟨rfl, hJ3⟩ | ⟨rfl, hJx⟩, hz3, hfr⟩
      · have g0 := hfr w.heap.size (.inl rfl)
        have g1 := hfr wr.heap.size (.inr (.inl (by simp)))
        have k0 : W3.cell? ⟨wr.heap.size, 0, none⟩ = some (.int .i64 t.id) := (cell_heap (by exact g1)).trans (by simp [go_sem])
        have k1 : W3.cell? ⟨wr.heap.size, 1, none⟩ = some (.int .i64 t.num) := (cell_heap (by exact g1)).trans (by simp [go_sem])
        have k2 : W3.cell? ⟨wr.heap.size, 2, none⟩ = some (.int .i64 t.n) := (cell_heap (by exact g1)).trans (by simp [go_sem])
        have q0 : W3.cell? ⟨w.heap.size, 0, none⟩ = some (.int .i64 (oldK L i).1) := (cell_heap (by exact g0)).trans (hsB.cell c0 (fun h => h))
        have q1 : W3.cell? ⟨w.heap.size, 1, none⟩ = some (.int .i64 (oldK L i).2) := (cell_heap (by exact g0)).trans (hsB.cell c1 (fun h => h))
        have q2 : W3.frozen? ⟨w.heap.size, 0, none⟩ = false := (frozen_heap (by exact g0)).trans (hsB.unfrozen c0 f0 (fun h => h))
        have q3 : W3.frozen? ⟨w.heap.size, 1, none⟩ = false := (frozen_heap (by exact g0)).trans (hsB.unfrozen c1 f1 (fun h => h))
        have HR3 := Lib.hid ((HR2.out.same0 hsB).heap (fun y hy => hfr _ (.inr (.inr ⟨y, hy, rfl⟩))))
        simp only [World.size_alloc] at hz3
        clear hfr hsB hJ1 hR hye g0 g1
        gi_wp2_with fail
        refine CallsIn.mono (callsIn_wide.2 (of_any _ t)) ?_
        rintro e W4 ⟨rfl, hs4⟩
        have p0 := hs4.cell q0 (fun h => h)
        have p1 := hs4.cell q1 (fun h => h)
        have p2 := hs4.unfrozen q0 q2 (fun h => h)
        have p3 := hs4.unfrozen q1 q3 (fun h => h)
        have hz4 := hs4.size
        have hJ4 := hJ _ _ _ hJ3 (hs4.mono (fun _ _ h => h.elim))
        have HR4 := Lib.hid (HR3.out.same0 hs4)
        clear hs4
        gi_wp2
        have hsD : Same (· = w.heap.size) W4 ((W4.setCell ⟨w.heap.size, 0, none⟩ (.int .i64 t.id)).setCell ⟨w.heap.size, 1, none⟩ (.int .i64 t.num)) := ((Same.refl (· = w.heap.size) _).setCell _ (.inr rfl)).setCell _ (.inr rfl)
        have hJ5 := hJ _ _ _ hJ4 hsD
        have hold := oldK_succ HT.out
        go_roundw
        case rel => exact ⟨i + 1, by omega, by go_num, by simp; omega, by rw [hold]; simp [go_sem, p0, p1, p2, p3], by rw [hold]; simp [go_sem, p0, p1, p2, p3], by simp [go_sem, p2], by simp [go_sem, p3], HR4.out.same hsD (fun y hy => by cases hy; omega), hJ5⟩
        case measure => simp [intOf]; omega
      · gi_wp2
        exact bodyPost_ret (results_none rfl _ _ _) rfl ⟨⟨_, rfl⟩, .inr hJx⟩
    · obtain rfl : i = n := by omega
      gi_wp2
      go_end0
      exact ⟨⟨_, rfl⟩, .inl hJs⟩
theorem wpListIn_append_run {F : Fence} {n : Nat} {P : Program} {w w' : World} {ops : Array Oper} {rest : List Oper} {o : Oper} {a : Act} {Q : Exit → Act → World → Prop} {v' : Value}
    (hg : o.guard = none) (s x : Operand) (t : TypeId) (hop : o.op = Op.call { callee := Callee.builtin Builtin.append, args := #[s, x], argTypes := #[t, t] }) (vs vx : Value) (hs : a.eval s = vs) (hx : a.eval x = vx)
    (hrun : (Builtin.append_ #[t, t] o.type #[vs, vx]).run P w = .ok v' w') (hK : wpListIn F n P ops Q rest (a.put o.dst v') w') : wpListIn F n P ops Q (o :: rest) a w := by
  refine wpListIn_plain hg fun K hK' => ?_
  unfold Oper.wpIn
  refine ⟨?_, ?_⟩
  · simp [Oper.about, hop, resolve, Target.leads, Sem.run_pure]
  · rw [Oper.semAt_plain F _ _ (by rw [hop]; intro c hc'; cases hc')]
    simp [execOp, hop, resolve, invoke, builtin, hs, hx, hrun, Result.andThen]
    exact hK' _ _ hK
theorem app_int1 {w : World} {base : Nat} {v : Value} {l : List Int} (h : w.ownsRow base 3 1 v l.length (ints l)) (hl : l.length ≤ 1000) (hb : base ≤ w.heap.size) (t : Int) :
    ∃ v' w', (Builtin.append_ #[33, 33] 33 #[v, .slice (some ⟨w.heap.size, 0, none⟩) 1 1]).run Try.prog (w.alloc (.cells #[.int .i64 t] 3)) = .ok v' w' ∧
      w'.ownsRow base 3 1 v' (l ++ [t]).length (ints (l ++ [t])) ∧ Same (fun k => v.ownBlock = some k) w w' := by
  obtain ⟨i3, hi3, hz1, hz2, hz3⟩ := info3
  have hs1 : Same (fun _ => False) w (w.alloc (.cells #[.int .i64 t] 3)) := same_alloc _
  have o1 := ownsRow_same h hs1 (fun _ _ h => h)
  obtain ⟨v', w', hrun, hown, hsame, -⟩ := run_append_same (P := Try.prog) (w.alloc (.cells #[.int .i64 t] 3)) base 33 33 3 i3 (.int .i64 0) 1 8 Try.underlying33 hi3 hz1 hz2 hz3 rfl (by decide) _ l.length _ o1
    ⟨w.heap.size, 0, none⟩ 1 1 [.int .i64 t] (by rfl) (fun j u hu => cells_new rfl hu) (by simp [Value.oneCell']) (by unfold maxLen; omega) (by omega) (by simp; omega)
  refine ⟨v', w', hrun, ?_, (hs1.mono (T := fun k => v.ownBlock = some k) (fun _ _ h => h.elim)).trans hsame⟩
  rw [List.length_append]
  have e : ints (l ++ [t]) = ints l ++ [.int .i64 t] := by simp [ints]
  rw [e]
  exact hown
theorem idsU_start {L : List Tri} (h : ∀ t ∈ L, 0 ≤ t.id) : idsU (some (-1)) L = idsU none L := by
  cases L with
  | nil => rfl
  | cons t l =>
    have := h t (List.mem_cons_self ..)
    rw [idsU, idsU, if_neg (by simp only [Option.some.injEq]; omega), if_neg (by simp)]
/-- Between two of them. -/
def IdsJ (w W1 : World) (bO L0 D : Nat) (rl : Obj) (L : List Tri) (R : List Int) (i : Nat) (W : World) : Prop := ∃ vv out, W1.heap.size ≤ W.heap.size ∧ W.cell? ⟨bO, 0, none⟩ = some vv ∧ W.frozen? ⟨bO, 0, none⟩ = false ∧
  W.ownsRow (W1.heap.size + 1) 3 1 vv out.length (ints out) ∧ out ++ idsU (some (oldK L i).1) (L.drop i) = R ∧ Same (fun k => w.heap.size ≤ k) w W ∧ W.heap[L0]? = some rl ∧ W.heap[D]? = some (.deferred (some []))
def Never (_ : World) : Prop := False
set_option maxHeartbeats 3200000 in
set_option maxRecDepth 16384 in
theorem ids25 (w : World) (a : Option Addr) (c : Nat) (L : List Tri) (hr : TriR w a L) (hlen : L.length ≤ 900) (ha : ∀ x, a = some x → x.block < w.heap.size) :
    Calls Try.prog 25 #[.slice a L.length c] w fun e w' => ∃ v, e = .returned v ∧ w'.ownsRow w.heap.size 3 1 v (idsS L).length (ints (idsS L)) ∧ Same (fun _ => False) w w' := by
  obtain ⟨R, hRd⟩ : ∃ R, R = idsS L := ⟨_, rfl⟩
  rw [← hRd]
  have HRD := Lib.hid hRd
  have hra := right_any w a c L hr (by unfold maxLen; omega) ha
  have HR := Lib.hid hr
  obtain ⟨n, hn⟩ : ∃ n, n = L.length := ⟨_, rfl⟩
  rw [← hn] at hra hlen ⊢
  have HN := Lib.hid hn
  have HA := Lib.hid ha
  clear hr hn hRd
  refine (callsIn_wide (n := 0)).1 ?_
  refine callsIn_of_wp_marks Try.func25 rfl trivial ?_ rfl
  simp only [Try.ntmps25, List.size_toArray, List.length_cons, List.length_nil, Nat.reduceAdd, Nat.reduceSub, Array.replicate_succ, Array.replicate_zero, List.push_toArray, List.append_toArray, List.nil_append, List.cons_append]
  gi_wp2_with fail
  gi_at_call 15
  refine CallsIn.mono (callsIn_wide.2 hra) ?_
  rintro e w1 ⟨b, hb, rfl, hs1⟩
  have HB := Lib.hid hb
  have HS1 := Lib.hid hs1
  have hz1 := hs1.size
  clear hb hra hs1
  cases b with
  | false =>
    have HS : Hid (R = []) := Lib.hid (by rw [HRD.out, idsS, if_neg (fun h => by have := HB.out.2 h; cases this)])
    gi_wp2
    refine ⟨_, results_tmp rfl _ _ _, ?_⟩
    rw [HS.out]
    exact ⟨_, rfl, World.ownsRow_nil .., HS1.out⟩
  | true =>
    have HRt : Hid (Un.Right L) := Lib.hid (HB.out.1 rfl)
    gi_wp2_with fail
    gi_at_call 34
    refine CallsIn.mono (callsIn_wide.2 (pairs_any _ _ _ _)) ?_
    rintro e w' ⟨rfl, rfl⟩
    gi_wp2_with fail
    have hRU : R = idsU (some (-1)) L := by rw [HRD.out, idsS, if_pos HRt.out, idsU_start (fun t ht => (HRt.out.ok t ht).1)]
    have HRU := Lib.hid hRU
    have hRl : R.length ≤ n := by rw [HRU.out, HN.out]; exact idsU_len L _
    clear hRU
    refine range_wide (gf := 47) (lb := #[.pointer (some ⟨w1.heap.size + 1, 0, none⟩)]) rfl (enters_of Try.func47 (by kernel_rfl) rfl) ?_
    intro rec D L0 W1 hD hL hrule hs1 hl1 hd1 _
    simp only [World.size_alloc] at hD
    have hc0 : W1.cell? ⟨w1.heap.size, 0, none⟩ = some (.slice none 0 0) := hs1.cell (by simp [go_sem]) (by simp)
    have hf0 : W1.frozen? ⟨w1.heap.size, 0, none⟩ = false := (hs1.frozen (by simp; omega) (by simp)).trans (by simp [go_sem])
    have hb0 : W1.cell? ⟨w1.heap.size + 1, 0, none⟩ = some (.slice a L.length c) := by rw [← HN.out]; exact hs1.cell (by simp [go_sem]) (by simp)
    have hL1 := (Array.getElem?_eq_some_iff.1 hl1).1
    have hsW : Same (fun _ => False) w W1 := HS1.out.trans (((same_alloc _).alloc _).trans hs1)
    have hW1 := hs1.size
    simp only [World.size_alloc] at hW1
    have HSW := Lib.hid hsW
    have hzW := hsW.size
    clear hsW
    refine Calls.mono (pairs2 L0 (w1.heap.size + 1) a c L (fun i W => IdsJ w W1 w1.heap.size L0 D (rec .ready none) L R i W) Never W1 hb0 (HR.out.same0 HSW.out) (by have := HN.out; unfold maxLen; omega) (fun x hx => by have := HA.out x hx; omega) ?_ ?_ ?_) ?_
    · rintro i W W' ⟨vv, out, j1, j2, j3, j4, j5, j6, j7, j8⟩ hs
      have := hs.size
      exact ⟨vv, out, by omega, hs.cell j2 (by simp; omega), hs.unfrozen j2 j3 (by simp; omega), ownsRow_same j4 hs (fun g hg e => by have := (ownsRow_shape j4 hg).1; omega), j5, j6.trans (hs.mono (fun k _ e => by omega)), hs.block j7 (by omega), hs.block j8 (by omega)⟩
    · rintro i t W ⟨vv, out, j1, j2, j3, j4, j5, j6, j7, j8⟩ hit hgr hsh
      have J4 := Lib.hid j4
      have HST : Hid (out ++ ((if some (oldK L i).1 = some t.id then [] else [t.id]) ++ idsU (some (oldK L (i + 1)).1) (L.drop (i + 1))) = R) := Lib.hid (by
        have h := j5
        rw [drop_cons hit, idsU] at h
        rw [oldK_succ hit]
        exact h)
      have hol : out.length ≤ 1000 := by have h := congrArg List.length j5; simp only [List.length_append] at h; omega
      have HSH := Lib.hid hsh
      have J6 := Lib.hid j6
      clear j4 j5 j6 hsh hit
      refine hrule W _ _ j7 rfl ?_
      gi_wp2
      refine ⟨((same_alloc _).alloc _).block j7 (by simp), ?_⟩
      intro W2 hq hzw hl2
      have hqa : Same (· = L0) W W2 := (((same_alloc _).alloc _).mono (fun _ _ h => h.elim)).trans hq
      have o0 : W2.cell? ⟨W.heap.size, 0, none⟩ = some (.int .i64 (oldK L i).1) := hq.cell (by simp [go_sem]) (by simp; omega)
      have t0 : W2.cell? ⟨W.heap.size + 1, 0, none⟩ = some (.int .i64 t.id) := hq.cell (by simp [go_sem]) (by simp; omega)
      have p0 := hqa.cell j2 (by simp; omega)
      have p1 := hqa.unfrozen j2 j3 (by simp; omega)
      have p8 := hqa.block j8 (by omega)
      have hz2 := hqa.size
      have hown2 : W2.ownsRow (W1.heap.size + 1) 3 1 vv out.length (ints out) := ownsRow_same J4.out hqa (fun g hg e => by have := (ownsRow_shape J4.out hg).1; omega)
      have HQ := Lib.hid (And.intro hqa hown2)
      clear hq hqa hown2
      by_cases h1 : (oldK L i).1 = t.id
      · have e1 : ((oldK L i).1 == t.id) = true := by simpa using h1
        have g1 : ((oldK L i).1 != t.id) = false := by simpa using h1
        have HEQ : Hid (out ++ idsU (some (oldK L (i + 1)).1) (L.drop (i + 1)) = R) := Lib.hid (by
          have h := HST.out
          rw [if_pos (by rw [h1])] at h
          exact h)
        clear h1
        gi_wp2
        refine ⟨hl2, fun W8 hs8 hz8 hl8 => ⟨.inl ⟨rfl, vv, out, by omega, hs8.cell p0 (by simp; omega), hs8.unfrozen p0 p1 (by simp; omega), ownsRow_same HQ.out.2 hs8 (fun g hg e => by have := (ownsRow_shape J4.out hg).1; omega), HEQ.out, (J6.out.trans (HQ.out.1.mono (fun b _ e => by omega))).trans (hs8.mono (fun b _ e => by omega)), hl8, hs8.block p8 (by omega)⟩, by omega, fun b hb => ?_⟩⟩
        have hb2 : b < W.heap.size ∧ b ≠ L0 := by
          rcases hb with hb | hb | ⟨x, hx, hb⟩
          · omega
          · omega
          · have := HA.out x hx
            omega
        rw [hs8.old _ (by omega) (by omega), HQ.out.1.old _ (by omega) (by omega)]
      · have e1 : ((oldK L i).1 == t.id) = false := by simpa using h1
        have g1 : ((oldK L i).1 != t.id) = true := by simpa using h1
        have HNE : Hid (out ++ [t.id] ++ idsU (some (oldK L (i + 1)).1) (L.drop (i + 1)) = R) := Lib.hid (by
          have h := HST.out
          rw [if_neg (by simp only [Option.some.injEq]; exact h1)] at h
          rw [List.append_assoc]
          exact h)
        obtain ⟨v7, w7, hrun7, ho7, hs7⟩ := app_int1 HQ.out.2 hol (by omega) t.id
        obtain ⟨ao7, cap7, rfl, -⟩ := own_row_any2 ho7
        have hvb : ∀ g, vv.ownBlock = some g → W1.heap.size + 1 ≤ g ∧ g < W.heap.size ∧ g ≠ W.heap.size - 1 := fun g hg => by
          obtain ⟨q1, q2, k, q3⟩ := ownsRow_shape J4.out hg
          obtain ⟨k', q4⟩ := HSH.out
          refine ⟨q1, q2, fun e => ?_⟩
          rw [e, q4] at q3
          simp at q3
        have HVB := Lib.hid hvb
        have r0 := hs7.cell p0 (fun e => by have := (hvb _ e).1; simp at this; omega)
        have r1 := hs7.unfrozen p0 p1 (fun e => by have := (hvb _ e).1; simp at this; omega)
        have r8 := hs7.block p8 (fun e => by have := (hvb _ e).1; omega)
        have rl := hs7.block hl2 (fun e => by have := (hvb _ e).1; omega)
        have hz7 := hs7.size
        have H7 := Lib.hid (And.intro ho7 hs7)
        have hz2e : W2.heap.size = W.heap.size + 1 + 1 := by simpa using hzw
        rw [hz2e] at hrun7
        have HRUN7 := Lib.hid hrun7
        clear h1 hrun7 ho7 hs7 hvb
        gi_wp2_with (gi_at_builtin; refine wpListIn_append_run rfl (.tmp 18) (.tmp 21) 33 rfl _ _ rfl rfl HRUN7.out ?_)
        have hln : (out ++ [t.id]).length = out.length + 1 := by simp
        rw [hln] at H7
        have hsB : Same (· = w1.heap.size) w7 (w7.setCell ⟨w1.heap.size, 0, none⟩ (.slice ao7 (out.length + 1) cap7)) := (Same.refl (· = w1.heap.size) w7).setCell _ (.inr rfl)
        have hzB := hsB.size
        have k0 : (w7.setCell ⟨w1.heap.size, 0, none⟩ (.slice ao7 (out.length + 1) cap7)).cell? ⟨w1.heap.size, 0, none⟩ = some (.slice ao7 (out.length + 1) cap7) := World.cell?_setCell_same _ _ _ r0
        have k1 : (w7.setCell ⟨w1.heap.size, 0, none⟩ (.slice ao7 (out.length + 1) cap7)).frozen? ⟨w1.heap.size, 0, none⟩ = false := (World.frozen?_setCell _ _ _ _).trans r1
        refine ⟨hsB.block rl (by omega), fun W8 hs8 hz8 hl8 => ⟨.inl ⟨rfl, _, out ++ [t.id], by omega, hs8.cell k0 (by simp; omega), hs8.unfrozen k0 k1 (by simp; omega), ?_, HNE.out, ?_, hl8, hs8.block (hsB.block r8 (by omega)) (by omega)⟩, by omega, fun b hb => ?_⟩⟩
        · have h := ownsRow_same (ownsRow_same H7.out.1 hsB (fun g hg e => by have := (ownsRow_shape H7.out.1 hg).1; omega)) hs8 (fun g hg e => by have := (ownsRow_shape H7.out.1 hg).1; omega)
          rw [hln]
          exact h
        · exact (((J6.out.trans (HQ.out.1.mono (fun b _ e => by omega))).trans (H7.out.2.mono (fun b _ e => by have := (HVB.out b e).1; omega))).trans (hsB.mono (fun b _ e => by omega))).trans (hs8.mono (fun b _ e => by omega))
        · have hb2 : b < W.heap.size ∧ b ≠ L0 ∧ b ≠ w1.heap.size ∧ ¬ vv.ownBlock = some b := by
            rcases hb with hb | hb | ⟨x, hx, hb⟩
            · exact ⟨by omega, by omega, by omega, fun e => by have := (HVB.out b e).1; omega⟩
            · exact ⟨by omega, by omega, by omega, fun e => by have := (HVB.out b e).2.2; omega⟩
            · have := HA.out x hx
              exact ⟨by omega, by omega, by omega, fun e => by have := (HVB.out b e).1; omega⟩
          rw [hs8.old _ (by omega) (by omega), hsB.old _ (by omega) (by omega), H7.out.2.old _ (by omega) hb2.2.2.2, HQ.out.1.old _ (by omega) (by omega)]
    · exact ⟨_, [], Nat.le_refl _, hc0, hf0, World.ownsRow_nil .., by rw [HRU.out]; rfl, HSW.out.mono (fun _ _ h => h.elim), hl1, hd1⟩
    · rintro e W ⟨⟨v0, rfl⟩, ⟨vv, out, j1, j2, j3, j4, j5, j6, j7, j8⟩ | h⟩
      · refine ⟨⟨_, rfl⟩, .inl ⟨j7, fun W2 hs2 _ => ?_⟩⟩
        have hc2 := hs2.cell j2 (by simp; omega)
        have hd2 := hs2.block j8 (by omega)
        have hs3 := j6.trans (hs2.mono (fun k _ e => by omega))
        have heq : out = R := by rw [List.drop_length, idsU, List.append_nil] at j5; exact j5
        have hown : W2.ownsRow (W1.heap.size + 1) 3 1 vv out.length (ints out) := ownsRow_same j4 hs2 (fun g hg e => by have := (ownsRow_shape j4 hg).1; omega)
        have HO := Lib.hid (And.intro hown (And.intro hs3 heq))
        clear j4 j5 j6 hs3 heq hown
        gi_wp2
        refine leaves_mark hd2 fun W3 hs4 _ => ⟨results_tmp rfl _ _ _, ?_⟩
        refine ⟨vv, rfl, ?_, (HO.out.2.1.trans (hs4.mono (fun k _ e => by omega))).mono (fun k h h' => by omega)⟩
        rw [← HO.out.2.2]
        exact ownsRow_base (ownsRow_same HO.out.1 hs4 (fun g hg e => by have := (ownsRow_shape HO.out.1 hg).1; omega)) (by omega)
      · exact h.elim
end Go.Proofs.Ytcnocfboklhjnaa
