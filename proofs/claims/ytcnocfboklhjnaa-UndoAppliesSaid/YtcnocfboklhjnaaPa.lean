/- undo: the iterator over adjustments and the places of the ones ahead. No condition. -/
import Derived.Test.YtcnocfboklhjnaaRo
namespace Go.Proofs.Ytcnocfboklhjnaa
open Go.RowKit Go.Shelf
attribute [local go_sem] Oper.semAt_some

theorem cell_heap {W W' : World} {a : Addr} (h : W'.heap[a.block]? = W.heap[a.block]?) : W'.cell? a = W.cell? a := by unfold World.cell?; rw [h]
theorem frozen_heap {W W' : World} {a : Addr} (h : W'.heap[a.block]? = W.heap[a.block]?) : W'.frozen? a = W.frozen? a := by unfold World.frozen?; rw [h]
theorem TriR.heap {w w' : World} {a : Option Addr} {l : List Tri} (h : TriR w a l) (hh : ∀ x, a = some x → w'.heap[x.block]? = w.heap[x.block]?) : TriR w' a l := fun i t hi => by
  obtain ⟨x, hx, ht⟩ := h i t hi
  have e : (x.add (i * 3)).block = x.block := by unfold Addr.add; split <;> rfl
  have := hh x hx
  exact ⟨x, hx, (cell_heap (by rw [e]; exact this)).trans ht.c0, (cell_heap (by simp only [e]; exact this)).trans ht.c1, (cell_heap (by simp only [e]; exact this)).trans ht.c2⟩
/-- What a round leaves alone. -/
def FrR (r : Nat) (a : Option Addr) (W W' : World) : Prop := W.heap.size ≤ W'.heap.size ∧ ∀ b, (b = r ∨ b + 1 = W.heap.size ∨ ∃ x, a = some x ∧ b = x.block) → W'.heap[b]? = W.heap[b]?
/-- The place of the one ahead. -/
def oldK (l : List Tri) : Nat → Int × Int
  | 0 => (-1, -1)
  | i + 1 => match l[i]? with | some t => t.key | none => (-1, -1)
theorem oldK_succ {l : List Tri} {i : Nat} {t : Tri} (h : l[i]? = some t) : oldK l (i + 1) = t.key := by simp [oldK, h]
theorem pairs_any (w : World) (a : Option Addr) (n c : Nat) :
    Calls Try.prog 34 #[.slice a n c] w fun e w' => e = .returned (.func (.func 47) #[] #[.pointer (some ⟨w.heap.size, 0, none⟩)]) ∧ w' = w.alloc (.cells #[.slice a n c] 22) := by
  go_enter Try.func34, Try.ntmps34
  go_wp2
  go_ret
  exact ⟨rfl, rfl⟩
set_option maxHeartbeats 800000 in
theorem pairs1 (l bx : Nat) (a : Option Addr) (c : Nat) (L : List Tri) (J : Nat → World → Prop) (Jx : World → Prop) (w : World)
    (hb : w.cell? ⟨bx, 0, none⟩ = some (.slice a L.length c)) (hr : TriR w a L) (hlen : L.length ≤ maxLen) (ha : ∀ x, a = some x → x.block < w.heap.size)
    (hJ : ∀ i W W', J i W → Same (· = w.heap.size) W W' → J i W')
    (hy : ∀ i t W, J i W → L[i]? = some t → w.heap.size < W.heap.size → YieldAt Fence.wide 0 Try.prog l #[kvp (oldK L i), tv t] W fun e W' =>
      ((e = .returned (.bool true) ∧ J (i + 1) W') ∨ (e = .returned (.bool false) ∧ Jx W')) ∧ FrR w.heap.size a W W')
    (h0 : J 0 w) :
    Calls Try.prog 47 #[.func (.yield l) #[] #[], .pointer (some ⟨bx, 0, none⟩)] w fun e W' => (∃ v, e = .returned v) ∧ (J L.length W' ∨ Jx W') := by
  obtain ⟨n, hn⟩ : ∃ n, n = L.length := ⟨_, rfl⟩
  rw [← hn] at hb hlen ⊢
  have HN := Lib.hid hn
  have HR := Lib.hid hr
  have hsA : Same (fun _ => False) w (w.alloc (.cells #[.int .i64 (-1), .int .i64 (-1)] 58)) := same_alloc _
  have hJ0 := hJ 0 w _ h0 (hsA.mono (fun _ _ h => h.elim))
  have hn2 : n ≤ 9223372036854775807 := by unfold maxLen at hlen; omega
  have hbx := World.block_lt_of_cell? _ _ hb
  have hbA := hsA.cell hb (fun h => h)
  clear hr hn h0 hlen
  refine (callsIn_wide (n := 0)).1 ?_
  refine callsIn_of_wp Try.func47 rfl trivial ?_ rfl
  simp only [Try.ntmps47, List.size_toArray, List.length_cons, List.length_nil, Nat.reduceAdd, Nat.reduceSub, Array.replicate_succ, Array.replicate_zero, List.push_toArray, List.append_toArray, List.nil_append, List.cons_append]
  gi_wp2
  gi_loopw [9] (fun v9 wr => ∃ i : Nat, i ≤ n ∧ v9 = .int .i64 i ∧ w.heap.size < wr.heap.size ∧ wr.cell? ⟨w.heap.size, 0, none⟩ = some (.int .i64 (oldK L i).1) ∧ wr.cell? ⟨w.heap.size, 1, none⟩ = some (.int .i64 (oldK L i).2) ∧
      wr.frozen? ⟨w.heap.size, 0, none⟩ = false ∧ wr.frozen? ⟨w.heap.size, 1, none⟩ = false ∧ TriR wr a L ∧ J i wr) (fun v9 _ => n - (intOf v9).toNat)
  case atStart => exact ⟨0, by omega, rfl, by simp, by simp [go_sem, oldK], by simp [go_sem, oldK], by simp [go_sem], by simp [go_sem], HR.out.same0 hsA, hJ0⟩
  case round =>
    obtain ⟨i, hi, rfl, hsz, c0, c1, f0, f1, hr, hJs⟩ := hrel
    by_cases hlt : i < n
    · have hlt' : (i : Int) < n := by omega
      obtain ⟨t, ht⟩ : ∃ t, L[i]? = some t := ⟨_, List.getElem?_eq_getElem (by have := HN.out; omega)⟩
      obtain ⟨x, rfl, hx⟩ := hr i t ht
      have x0 := hx.c0
      have x1 := hx.c1
      have x2 := hx.c2
      have HR2 := Lib.hid hr
      have HT := Lib.hid ht
      have hxb := ha x rfl
      clear hx hr ht
      have hsB : Same (fun _ => False) wr (wr.alloc (.cells #[.int .i64 t.id, .int .i64 t.num, .int .i64 t.n] 45)) := same_alloc _
      have hJ1 := hJ i _ _ hJs (hsB.mono (fun _ _ h => h.elim))
      have hgr : w.heap.size < (wr.alloc (.cells #[.int .i64 t.id, .int .i64 t.num, .int .i64 t.n] 45)).heap.size := by simp; omega
      obtain ⟨fn, tmps, assign, body, hye, hR⟩ := hy i t _ hJ1 HT.out hgr
      gi_wp2
      refine hR.mono ?_
      rintro e W3 ⟨⟨rfl, hJ3⟩ | ⟨rfl, hJx⟩, hz3, hfr⟩
      · have g0 := hfr w.heap.size (.inl rfl)
        have g1 := hfr wr.heap.size (.inr (.inl (by simp)))
        have k0 : W3.cell? ⟨wr.heap.size, 0, none⟩ = some (.int .i64 t.id) := (cell_heap (by exact g1)).trans (by simp [go_sem])
        have k1 : W3.cell? ⟨wr.heap.size, 1, none⟩ = some (.int .i64 t.num) := (cell_heap (by exact g1)).trans (by simp [go_sem])
        have k2 : W3.cell? ⟨wr.heap.size, 2, none⟩ = some (.int .i64 t.n) := (cell_heap (by exact g1)).trans (by simp [go_sem])
        have q0 : W3.cell? ⟨w.heap.size, 0, none⟩ = some (.int .i64 (oldK L i).1) := (cell_heap (by exact g0)).trans (hsB.cell c0 (fun h => h))
        have q1 : W3.cell? ⟨w.heap.size, 1, none⟩ = some (.int .i64 (oldK L i).2) := (cell_heap (by exact g0)).trans (hsB.cell c1 (fun h => h))
        have q2 : W3.frozen? ⟨w.heap.size, 0, none⟩ = false := (frozen_heap (by exact g0)).trans (hsB.unfrozen c0 f0 (fun h => h))
        have q3 : W3.frozen? ⟨w.heap.size, 1, none⟩ = false := (frozen_heap (by exact g0)).trans (hsB.unfrozen c1 f1 (fun h => h))
        have HR3 := Lib.hid ((HR2.out.same0 hsB).heap (fun y hy => hfr _ (.inr (.inr ⟨y, hy, rfl⟩))))
        simp only [World.size_alloc] at hz3
        clear hfr hsB hJ1 hR hye g0 g1
        gi_wp2_with fail
        refine CallsIn.mono (callsIn_wide.2 (of_any _ t)) ?_
        rintro e W4 ⟨rfl, hs4⟩
        have p0 := hs4.cell q0 (fun h => h)
        have p1 := hs4.cell q1 (fun h => h)
        have p2 := hs4.unfrozen q0 q2 (fun h => h)
        have p3 := hs4.unfrozen q1 q3 (fun h => h)
        have hz4 := hs4.size
        have hJ4 := hJ _ _ _ hJ3 (hs4.mono (fun _ _ h => h.elim))
        have HR4 := Lib.hid (HR3.out.same0 hs4)
        clear hs4
        gi_wp2
        have hsD : Same (· = w.heap.size) W4 ((W4.setCell ⟨w.heap.size, 0, none⟩ (.int .i64 t.id)).setCell ⟨w.heap.size, 1, none⟩ (.int .i64 t.num)) := ((Same.refl (· = w.heap.size) _).setCell _ (.inr rfl)).setCell _ (.inr rfl)
        have hJ5 := hJ _ _ _ hJ4 hsD
        have hold := oldK_succ HT.out
        go_roundw
        case rel => exact ⟨i + 1, by omega, by go_num, by simp; omega, by rw [hold]; simp [go_sem, p0, p1, p2, p3], by rw [hold]; simp [go_sem, p0, p1, p2, p3], by simp [go_sem, p2], by simp [go_sem, p3], HR4.out.same hsD (fun y hy => by cases hy; omega), hJ5⟩
        case measure => simp [intOf]; omega
      · gi_wp2
        exact bodyPost_ret (results_none rfl _ _ _) rfl ⟨⟨_, rfl⟩, .inr hJx⟩
    · obtain rfl : i = n := by omega
      gi_wp2
      go_end0
      exact ⟨⟨_, rfl⟩, .inl hJs⟩
end Go.Proofs.Ytcnocfboklhjnaa
