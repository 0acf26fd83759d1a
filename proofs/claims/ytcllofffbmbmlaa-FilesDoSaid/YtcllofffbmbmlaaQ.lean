import Derived.Test.YtcllofffbmbmlaaO
import Derived.Deep.QuietTactic
import Derived.BigQuiet
namespace Go.Proofs.Ytcllofffbmbmlaa
open Go.RowKit Go.Shelf
attribute [local go_sem] Oper.semAt_some

def gv (L : List Ent) (pid fd : Int) : Int × Int × Int :=
  if pid < 1 then (0, 0, 2) else match ent L pid fd with
    | none => (0, 0, 80)
    | some e => (e.kind, e.thing, 0)
theorem getV_gv (L : List Ent) (pid fd : Int) : getV L pid fd = (.agg #[.int .i64 (gv L pid fd).1, .int .i64 (gv L pid fd).2.1], (gv L pid fd).2.2) := by
  unfold getV gv
  split
  · rfl
  · cases ent L pid fd <;> rfl
/-- Two rows of eight, filled so far. -/
structure ArrAt (w : World) (A B : Nat) (k : Nat) (g : Nat → Int × Int × Int) : Prop where
  c : ∀ j, j < 8 → ∃ x y e : Int, w.cell? ⟨A, j * 2, none⟩ = some (.int .i64 x) ∧ w.cell? ⟨A, j * 2 + 1, none⟩ = some (.int .i64 y) ∧ w.cell? ⟨B, j, none⟩ = some (.int .i64 e) ∧ (j < k → g j = (x, y, e))
  z : ∀ o, w.frozen? ⟨A, o, none⟩ = false ∧ w.frozen? ⟨B, o, none⟩ = false
  s : (∃ n, w.shape? A = some (45, n)) ∧ ∃ n, w.shape? B = some (46, n)
theorem ArrAt.kept {w w' : World} {S : Nat → Prop} {A B k : Nat} {g : Nat → Int × Int × Int} (h : ArrAt w A B k g) (hs : Same S w w') (hA : ¬ S A) (hB : ¬ S B) : ArrAt w' A B k g := by
  obtain ⟨x0, y0, e0, c0, c1, c2, _⟩ := h.c 0 (by decide)
  have lA := World.block_lt_of_cell? _ _ c0
  have lB := World.block_lt_of_cell? _ _ c2
  refine ⟨fun j hj => ?_, fun o => ?_, ?_⟩
  · obtain ⟨x, y, e, a0, a1, a2, a3⟩ := h.c j hj
    exact ⟨x, y, e, hs.cell a0 hA, hs.cell a1 hA, hs.cell a2 hB, a3⟩
  · exact ⟨(hs.frozen (a := ⟨A, o, none⟩) lA hA).trans (h.z o).1, (hs.frozen (a := ⟨B, o, none⟩) lB hB).trans (h.z o).2⟩
  · obtain ⟨⟨n, hn⟩, n', hn'⟩ := h.s
    exact ⟨⟨n, (hs.shp _ lA).trans hn⟩, n', (hs.shp _ lB).trans hn'⟩
theorem ArrAt.mk0 (w : World) (g : Nat → Int × Int × Int) : ArrAt ((w.alloc (.cells #[.int .i64 0, .int .i64 0, .int .i64 0, .int .i64 0, .int .i64 0, .int .i64 0, .int .i64 0, .int .i64 0, .int .i64 0, .int .i64 0, .int .i64 0, .int .i64 0, .int .i64 0, .int .i64 0, .int .i64 0, .int .i64 0] 45)).alloc (.cells #[.int .i64 0, .int .i64 0, .int .i64 0, .int .i64 0, .int .i64 0, .int .i64 0, .int .i64 0, .int .i64 0] 46)) w.heap.size (w.heap.size + 1) 0 g := by
  refine ⟨fun j hj => ⟨0, 0, 0, ?_, ?_, ?_, by omega⟩, fun o => ?_, ⟨16, ?_⟩, 8, ?_⟩
  all_goals try (match j, hj with | 0, _ => simp | 1, _ => simp | 2, _ => simp | 3, _ => simp | 4, _ => simp | 5, _ => simp | 6, _ => simp | 7, _ => simp)
  · constructor <;> simp
  · rw [shape_alloc, if_neg (by simp), shape_alloc, if_pos rfl]; rfl
  · rw [shape_alloc, if_pos (by simp)]; rfl

theorem cell_ne {w : World} {a : Addr} {v u : Value} {b : Nat} {o : Nat} (h : w.cell? ⟨b, o, none⟩ = some u) (hne : a.block ≠ b ∨ a.off ≠ o) : (w.setCell a v).cell? ⟨b, o, none⟩ = some u := by
  rw [World.cell?_setCell_other]
  · exact h
  · intro h1; subst h1; simp at hne
theorem ArrAt.set {w : World} {A B k : Nat} {g : Nat → Int × Int × Int} (h : ArrAt w A B k g) (hk : k < 8) (hAB : A ≠ B) :
    ArrAt (((w.setCell ⟨A, k * 2, none⟩ (.int .i64 (g k).1)).setCell ⟨A, k * 2 + 1, none⟩ (.int .i64 (g k).2.1)).setCell ⟨B, k, none⟩ (.int .i64 (g k).2.2)) A B (k + 1) g := by
  refine ⟨fun j hj => ?_, fun o => ?_, ?_⟩
  · obtain ⟨x, y, e, a0, a1, a2, a3⟩ := h.c j hj
    by_cases hjk : j = k
    · subst hjk
      refine ⟨(g j).1, (g j).2.1, (g j).2.2, ?_, ?_, ?_, fun _ => rfl⟩
      · exact cell_ne (cell_ne (World.cell?_setCell_same _ _ _ a0) (.inr (by simp))) (.inl (Ne.symm hAB))
      · exact cell_ne (World.cell?_setCell_same _ _ _ (cell_ne a1 (.inr (by simp)))) (.inl (Ne.symm hAB))
      · exact World.cell?_setCell_same _ _ _ (cell_ne (cell_ne a2 (.inl hAB)) (.inl hAB))
    · refine ⟨x, y, e, ?_, ?_, ?_, fun hlt => a3 (by omega)⟩
      · exact cell_ne (cell_ne (cell_ne a0 (.inr (by simp only; omega))) (.inr (by simp only; omega))) (.inl (Ne.symm hAB))
      · exact cell_ne (cell_ne (cell_ne a1 (.inr (by simp only; omega))) (.inr (by simp only; omega))) (.inl (Ne.symm hAB))
      · exact cell_ne (cell_ne (cell_ne a2 (.inl hAB)) (.inl hAB)) (.inr (by simp only; omega))
  · simp only [World.frozen?_setCell]; exact h.z o
  · simp only [shape_setCell]; exact h.s
theorem same_two (w : World) (A B : Nat) (k : Nat) (x y z : Value) : Same (fun b => b = A ∨ b = B) w (((w.setCell ⟨A, k * 2, none⟩ x).setCell ⟨A, k * 2 + 1, none⟩ y).setCell ⟨B, k, none⟩ z) :=
  (((Same.refl _ w).setCell _ (.inr (.inl rfl))).setCell _ (.inr (.inl rfl))).setCell _ (.inr (.inr rfl))

set_option maxHeartbeats 3200000 in
set_option maxRecDepth 8192 in
theorem apart_walk (w : World) (a : Option Addr) (len cap : Nat) (d0 p0 q0 K0 T0 other : Int) (hlen : len ≤ maxLen) (hrows : ActsAt w a len) (hnil : a = none → len = 0) :
    Calls Try.prog 5 #[.slice a len cap, .agg #[.int .i64 d0, .int .i64 p0, .int .i64 q0, .int .i64 K0, .int .i64 T0], .int .i64 other] w fun e w' => e = .returned (.bool true) ∧ Same (fun _ => False) w w' := by
  unfold maxLen at hlen
  have HROWS := Lib.hid hrows
  have HNIL := Lib.hid hnil
  clear hrows hnil
  go_enter Try.func5, Try.ntmps5
  go_wp2_with fail
  refine (shown_any _).mono ?_
  rintro e w1 ⟨rfl, hs1⟩
  have g0 := hs1.cell (a := ⟨w.heap.size, 0, none⟩) (v := .int .i64 d0) (by simp) (by simp)
  have g1 := hs1.cell (a := ⟨w.heap.size, 1, none⟩) (v := .int .i64 p0) (by simp) (by simp)
  have g2 := hs1.cell (a := ⟨w.heap.size, 2, none⟩) (v := .int .i64 q0) (by simp) (by simp)
  have g3 := hs1.cell (a := ⟨w.heap.size, 3, none⟩) (v := .int .i64 K0) (by simp) (by simp)
  have g4 := hs1.cell (a := ⟨w.heap.size, 4, none⟩) (v := .int .i64 T0) (by simp) (by simp)
  have hlt1 := World.block_lt_of_cell? _ _ g0
  go_wp2_with fail
  refine (new_any _).mono ?_
  rintro e w2 ⟨f, m, rfl, hR2, hs2, hm2⟩
  have e0 := hs2.cell g0 (by simp)
  have e1 := hs2.cell g1 (by simp)
  have e2 := hs2.cell g2 (by simp)
  have e3 := hs2.cell g3 (by simp)
  have e4 := hs2.cell g4 (by simp)
  have hs02 : Same (fun _ => False) w w2 := ((same_alloc _).trans hs1).trans hs2
  have hsz2 := hs02.size
  have HR2 := Lib.hid hR2
  clear hR2 g0 g1 g2 g3 g4
  go_wp2
  go_loopw [9] (fun v7 wr => ∃ i : Nat, i ≤ len ∧ i ≤ 60 ∧ v7 = .int .i64 i ∧ ∃ L al, Rep wr f m L al ∧ L.length ≤ 8 * i ∧ Same (Own w2 m) w2 wr) (fun v7 _ => len - (intOf v7).toNat)
  case atStart => exact ⟨0, by omega, by omega, rfl, [], [], HR2.out, by simp, Same.refl _ _⟩
  case round =>
    obtain ⟨i, hi1, hi2, rfl, L, al, hRi, hM, hsi⟩ := hrel
    by_cases hik : i < len ∧ i < 60
    · obtain ⟨hlt, hlt8⟩ := hik
      cases a with
      | none => exact absurd (HNIL.out rfl) (by omega)
      | some x =>
        obtain ⟨d, p, q, K, T, hact⟩ := HROWS.out.act rfl hlt
        have hblt := hact.lt
        obtain ⟨c0, c1, c2, c3, c4⟩ := (hact.kept hs02 (by simp)).kept hsi (fun h => by have := h.1; omega)
        clear e0 e1 e2 e3 e4
        go_wp2_with fail
        refine (done_any hRi d p q K T (by omega)).mono ?_
        rintro e w4 ⟨rfl, L4, al4, hD, hR4, hs4⟩
        have hs5 := own_trans hsi hs4
        have hM4 : L4.length ≤ 8 * (i + 1) := by have := hD.len; omega
        have HR4 := Lib.hid hR4
        clear hR4 hRi hD c0 c1 c2 c3 c4 hact
        go_wp2
        go_round
        case rel => exact ⟨i + 1, by omega, by omega, by go_num, L4, al4, HR4.out, hM4, hs5⟩
        case measure => simp [intOf]; omega
    · have hcl : L.length ≤ 480 := by omega
      have HRi := Lib.hid hRi
      have hlt : i < len → 60 ≤ i := by omega
      have y0 := cell_own hsi e0 (by simp only; omega)
      have y1 := cell_own hsi e1 (by simp only; omega)
      have y2 := cell_own hsi e2 (by simp only; omega)
      have y3 := cell_own hsi e3 (by simp only; omega)
      have y4 := cell_own hsi e4 (by simp only; omega)
      have hw8 := wrap8 d0
      clear hRi hik hM
      by_cases hout : other = p0 ∨ d0 % 8 = 6
      · have hb : (other == p0 || d0 % 8 == 6) = true := by simpa using hout
        rcases Nat.lt_or_ge i len with hl | hl
        all_goals
          go_wp2
          all_goals
            go_ret
            exact ⟨rfl, hs02.trans' hsi (fun b hb hbw => by have := hb.1; omega)⟩
      · have hb : (other == p0) = false := by simp; omega
        have hb2 : (d0 % 8 == 6) = false := by simp; omega
        obtain ⟨ws, hws⟩ : ∃ ws, ws = wr := ⟨_, rfl⟩
        subst hws
        have hwm := HRi.out.hm.lt
        have HARR := Lib.hid (ArrAt.mk0 ws (fun j => gv L other j))
        rcases Nat.lt_or_ge i len with hl | hl
        all_goals
          go_wp2
          go_loopw [12] (fun v12 wx => ∃ k : Nat, k ≤ 8 ∧ v12 = .int .i64 k ∧ ArrAt wx ws.heap.size (ws.heap.size + 1) k (fun j => gv L other j) ∧ Rep wx f m L al ∧ Same (Own w2 m) w2 wx) (fun v12 _ => 8 - (intOf v12).toNat)
          case atStart => exact ⟨0, by omega, rfl, HARR.out, (HRi.out.same0 (same_alloc _)).same0 (same_alloc _), own_trans (own_trans hsi (own_of (same_alloc _))) (own_of (same_alloc _))⟩
          case round =>
            obtain ⟨k, hk, rfl, hA, hRx, hsx⟩ := hrel
            by_cases hk8 : k < 8
            · go_wp2_with fail
              refine (get_any hRx other k).mono ?_
              rintro e w4 ⟨rfl, hs4⟩
              have hA4 := hA.kept hs4 (by simp) (by simp)
              rw [getV_gv]
              simp only
              obtain ⟨x0, y0, e0, c0, c1, c2, _⟩ := hA4.c k hk8
              obtain ⟨z0, -⟩ := hA4.z (k * 2)
              obtain ⟨z1, -⟩ := hA4.z (k * 2 + 1)
              obtain ⟨-, z2⟩ := hA4.z k
              have hA5 := Lib.hid (hA4.set hk8 (by omega))
              have hst := same_two w4 ws.heap.size (ws.heap.size + 1) k (.int .i64 (gv L other k).1) (.int .i64 (gv L other k).2.1) (.int .i64 (gv L other k).2.2)
              have hR4 := hRx.same0 hs4
              have hm4 := hR4.hm.lt
              obtain ⟨⟨nA, hsA⟩, nB, hsB⟩ := hA4.s
              have hR5 := Lib.hid (hR4.same hst (fun b hb h hO => by
                rcases h with rfl | rfl
                · exact not_own (by omega) hsA (by decide) hO
                · exact not_own (by omega) hsB (by decide) hO))
              have hs5 := (hsx.trans' hs4 (by simp)).trans' hst (T := fun b => b = ws.heap.size ∨ b = ws.heap.size + 1) (S := Own w2 m) (fun b h hb => by have := hsi.size; omega)
              have HS5 := Lib.hid hs5
              clear hsA hsB hst hR4 hs5 hA4 hA hRx
              go_wp2
              exact ⟨⟨k + 1, by omega, by go_num, hA5.out, hR5.out, HS5.out⟩, by simp [intOf]; omega⟩
            · obtain rfl : k = 8 := by omega
              have y0' := cell_own hsx e0 (by simp only; omega)
              have y1' := cell_own hsx e1 (by simp only; omega)
              have y2' := cell_own hsx e2 (by simp only; omega)
              have y3' := cell_own hsx e3 (by simp only; omega)
              have y4' := cell_own hsx e4 (by simp only; omega)
              clear y0 y1 y2 y3 y4
              go_wp2_with fail
              refine (done_any hRx d0 p0 q0 K0 T0 (by omega)).mono ?_
              rintro e w5 ⟨rfl, L5, al5, hD, hR5, hs5⟩
              obtain ⟨⟨nA, hsA⟩, nB, hsB⟩ := hA.s
              have hA5 := hA.kept hs5 (not_own (by omega) hsA (by decide)) (not_own (by omega) hsB (by decide))
              have hs6 := own_trans hsx hs5
              have hgv : ∀ q : Int, gv L5 other q = gv L other q := fun q => by
                have := hD.others other (by omega) (.inl (by omega)) q
                unfold gv; rw [this]
              have HGV := Lib.hid hgv
              have HR5 := Lib.hid hR5
              have HA5 := Lib.hid hA5
              clear hgv hR5 hA5 hA hRx hD hs5 hsA hsB y0' y1' y2' y3' y4'
              obtain ⟨wt, hwt⟩ : ∃ wt, wt = wr := ⟨_, rfl⟩
              subst hwt
              go_wp2
              go_loopw [13] (fun v13 wx => ∃ k : Nat, k ≤ 8 ∧ v13 = .int .i64 k ∧ ArrAt wx ws.heap.size (ws.heap.size + 1) 8 (fun j => gv L other j) ∧ Rep wx f m L5 al5 ∧ Same (Own w2 m) w2 wx) (fun v13 _ => 8 - (intOf v13).toNat)
              case atStart => exact ⟨0, by omega, rfl, HA5.out, HR5.out, hs6⟩
              case round =>
                obtain ⟨k, hk, rfl, hA, hRx, hsx⟩ := hrel
                by_cases hk8 : k < 8
                · go_wp2_with fail
                  refine (get_any hRx other k).mono ?_
                  rintro e w7 ⟨rfl, hs7⟩
                  rw [getV_gv, HGV.out]
                  have hs8 := hs7.trans (same_alloc (.cells #[.int .i64 (gv L other k).1, .int .i64 (gv L other k).2.1] 23))
                  obtain ⟨x, y, er, c0, c1, c2, c3⟩ := (hA.kept hs7 (by simp) (by simp)).c k hk8
                  have hA8 := Lib.hid (hA.kept hs8 (by simp) (by simp))
                  have hR8 := Lib.hid (hRx.same0 hs8)
                  have hs9 := own_trans hsx (own_of hs8)
                  have hlA := World.block_lt_of_cell? _ _ c0
                  have hlB := World.block_lt_of_cell? _ _ c2
                  have c4 := c3 hk8
                  simp only at c4 hlA hlB
                  rw [c4] at hs8 hs9 hA8 hR8 ⊢
                  clear hA hRx hs7 c4 c3 hs8
                  simp only at hA8 hR8 hs9 ⊢
                  have d0' : (w7.alloc (.cells #[.int .i64 x, .int .i64 y] 23)).cell? ⟨w7.heap.size, 0, none⟩ = some (.int .i64 x) := by simp
                  have d1' : (w7.alloc (.cells #[.int .i64 x, .int .i64 y] 23)).cell? ⟨w7.heap.size, 1, none⟩ = some (.int .i64 y) := by simp
                  have d2' := (same_alloc (.cells #[.int .i64 x, .int .i64 y] 23)).cell c0 (by simp)
                  have d3' := (same_alloc (.cells #[.int .i64 x, .int .i64 y] 23)).cell c1 (by simp)
                  have d4' := (same_alloc (.cells #[.int .i64 x, .int .i64 y] 23)).cell c2 (by simp)
                  have hki : (k : Int) < 8 := by omega
                  have hR9 := Lib.hid (fun n => hR8.out.same0 ((Same.refl _ _).drewN n))
                  have hA9 := Lib.hid (fun n => hA8.out.kept ((Same.refl (fun _ => False) _).drewN n) (by simp) (by simp))
                  have hs10 := Lib.hid (fun n => Same.drewN hs9 n)
                  go_wp2_with fail
                  go_quiet (fail)
                  go_wp2
                  exact ⟨⟨k + 1, by omega, by go_num, hA9.out _, hR9.out _, hs10.out _⟩, by simp [intOf]; omega⟩
                · obtain rfl : k = 8 := by omega
                  go_wp2
                  go_ret
                  exact ⟨rfl, hs02.trans' hsx (fun b hb hbw => by have := hb.1; omega)⟩
end Go.Proofs.Ytcllofffbmbmlaa
