/- undo: operations that are wrong. No condition. -/
import Derived.Test.YtcnocfboklhjnaaRo
namespace Go.Proofs.Ytcnocfboklhjnaa
open Go.RowKit Go.Shelf
attribute [local go_sem] Oper.semAt_some

def badOp (t : Tri) : Bool := decide (t.id < 0) || !okS t.num
theorem badop_any (w : World) (t : Tri) :
    Calls Try.prog 29 #[.agg #[.int .i64 t.id, .int .i64 t.num, .int .i64 t.n]] w fun e w' => e = .returned (.bool (badOp t)) ∧ Same (fun _ => False) w w' := by
  have hsA : Same (fun _ => False) w (w.alloc (.cells #[.int .i64 t.id, .int .i64 t.num, .int .i64 t.n] 35)) := same_alloc _
  unfold badOp
  by_cases h1 : t.id < 0
  · have e1 : decide (t.id < 0) = true := by simpa using h1
    rw [e1]
    go_enter Try.func29, Try.ntmps29
    go_wp2
    go_ret
    exact ⟨by simp, hsA⟩
  · have e1 : decide (t.id < 0) = false := by simpa using h1
    rw [e1]
    have hA := are_any ((w.alloc (.cells #[.int .i64 t.id, .int .i64 t.num, .int .i64 t.n] 35)).alloc (.cells #[.int .i64 t.num] 3)) (w.heap.size + 1) t.num (by simp [go_sem])
    generalize okS t.num = b at hA ⊢
    go_enter Try.func29, Try.ntmps29
    go_wp2_with fail
    refine hA.mono ?_
    rintro e w1 ⟨rfl, rfl⟩
    go_wp2
    go_ret
    exact ⟨by simp, hsA.alloc _⟩
set_option maxHeartbeats 800000 in
theorem index45 (w : World) (a : Option Addr) (c : Nat) (l : List Tri) (hr : TriR w a l) (hlen : l.length ≤ maxLen) (ha : ∀ x, a = some x → x.block < w.heap.size) :
    Calls Try.prog 45 #[.slice a l.length c, .func (.func 29) #[] #[]] w fun e w' => ∃ r : Int, (0 ≤ r ↔ ∃ t ∈ l, badOp t = true) ∧ e = .returned (.int .i64 r) ∧ Same (fun _ => False) w w' := by
  have HR := Lib.hid hr
  have hn2 : l.length ≤ 9223372036854775807 := by unfold maxLen at hlen; omega
  obtain ⟨n, hn⟩ : ∃ n, n = l.length := ⟨_, rfl⟩
  rw [← hn] at hn2 ⊢
  have HN := Lib.hid hn
  clear hr hn hlen
  go_enter Try.func45, Try.ntmps45
  go_wp2
  go_loopw [8] (fun v8 wx => ∃ (i : Nat) (W : World), W = wx ∧ i ≤ n ∧ v8 = .int .i64 i ∧ (∀ t ∈ l.take i, badOp t = false) ∧ Same (fun _ => False) w W) (fun v8 _ => n - (intOf v8).toNat)
  case atStart => exact ⟨0, _, rfl, by omega, rfl, by simp, Same.refl _ _⟩
  case round =>
    obtain ⟨i, W, hW, hi, rfl, hg, hs⟩ := hrel
    subst hW
    have HG := Lib.hid hg
    have HS := Lib.hid hs
    by_cases hin : i < n
    · have hii : (i : Int) < n := by omega
      obtain ⟨t, ht⟩ : ∃ t, l[i]? = some t := ⟨_, List.getElem?_eq_getElem (by have := HN.out; omega)⟩
      obtain ⟨x, rfl, hx⟩ := HR.out.same0 hs i t ht
      have x0 := hx.c0
      have x1 := hx.c1
      have x2 := hx.c2
      have HX := Lib.hid ht
      have hb := badop_any W t
      clear hx ht hs hg
      cases hbt : badOp t with
      | true =>
        rw [hbt] at hb
        have HB := Lib.hid hbt
        clear hbt
        go_wp2_with (go_at_call 29; refine hb.mono ?_; rintro e w5 ⟨rfl, hs5⟩)
        have HS5 := Lib.hid hs5
        clear hs5
        go_ret
        exact ⟨i, ⟨fun _ => ⟨t, List.mem_of_getElem? HX.out, HB.out⟩, fun _ => by omega⟩, rfl, HS.out.trans HS5.out⟩
      | false =>
        rw [hbt] at hb
        have HB := Lib.hid hbt
        clear hbt
        go_wp2_with (go_at_call 29; refine hb.mono ?_; rintro e w5 ⟨rfl, hs5⟩)
        have HS5 := Lib.hid hs5
        clear hs5
        go_round
        case rel =>
          refine ⟨i + 1, _, rfl, by omega, by go_num, fun u hu => ?_, HS.out.trans HS5.out⟩
          rw [List.take_add_one, HX.out] at hu
          rcases List.mem_append.1 hu with hu | hu
          · exact HG.out u hu
          · simp at hu; rw [hu]; exact HB.out
        case measure => simp [intOf]; omega
    · obtain rfl : i = n := by omega
      clear hg hs
      go_wp2
      go_ret
      refine ⟨-1, ⟨fun h => by omega, ?_⟩, rfl, HS.out⟩
      rintro ⟨t, ht, hb⟩
      have := HG.out t (by rw [HN.out, List.take_length]; exact ht)
      rw [this] at hb; cases hb
theorem wrong28 (w : World) (a : Option Addr) (c : Nat) (l : List Tri) (hr : TriR w a l) (hlen : l.length ≤ maxLen) (ha : ∀ x, a = some x → x.block < w.heap.size) :
    Calls Try.prog 28 #[.slice a l.length c, .func (.func 29) #[] #[]] w fun e w' => ∃ b : Bool, (b = true ↔ ∃ t ∈ l, badOp t = true) ∧ e = .returned (.bool b) ∧ Same (fun _ => False) w w' := by
  have h := index45 w a c l hr hlen ha
  clear hr ha
  go_enter Try.func28, Try.ntmps28
  go_wp2_with (go_at_call 45; refine h.mono ?_; rintro e w5 ⟨r, hr, rfl, hs⟩; have HR := Lib.hid hr; clear hr)
  clear h
  go_ret
  exact ⟨decide (0 ≤ r), by rw [decide_eq_true_eq]; exact HR.out, rfl, hs⟩
end Go.Proofs.Ytcnocfboklhjnaa
