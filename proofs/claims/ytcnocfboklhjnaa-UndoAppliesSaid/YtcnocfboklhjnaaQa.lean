/- undo: the reference: ahead, Of, Right. Conditions: the lists' lengths. -/
import Derived.Test.YtcnocfboklhjnaaCl
import Derived.BigQuiet
namespace Go.Proofs.Ytcnocfboklhjnaa
open Go.RowKit Go.Shelf
attribute [local go_sem] Oper.semAt_some

theorem ahead_any (w : World) (a b : Tri) :
    Calls Try.prog 37 #[.agg #[.int .i64 a.id, .int .i64 a.num, .int .i64 a.n], .agg #[.int .i64 b.id, .int .i64 b.num, .int .i64 b.n]] w fun e w' => e = .returned (.bool (decide (Un.klt a.key b.key))) ∧ Same (fun _ => False) w w' := by
  have hsA : Same (fun _ => False) w ((w.alloc (.cells #[.int .i64 a.id, .int .i64 a.num, .int .i64 a.n] 45)).alloc (.cells #[.int .i64 b.id, .int .i64 b.num, .int .i64 b.n] 45)) := (same_alloc _).alloc _
  obtain ⟨B, hB⟩ : ∃ B, B = decide (Un.klt a.key b.key) := ⟨_, rfl⟩
  rw [← hB]
  have HB := Lib.hid hB
  clear hB
  have hk : Un.klt a.key b.key ↔ a.id < b.id ∨ a.id = b.id ∧ a.num < b.num := Iff.rfl
  by_cases h1 : a.id < b.id
  · have e1 : decide (a.id < b.id) = true := by simpa using h1
    have hb : B = true := by rw [HB.out]; simp [hk, h1]
    subst hb
    clear h1 hk
    go_enter Try.func37, Try.ntmps37
    go_wp2
    go_ret
    exact ⟨rfl, hsA⟩
  · have e1 : decide (a.id < b.id) = false := by simpa using h1
    by_cases h2 : a.id = b.id
    · have e2 : (a.id == b.id) = true := by simpa using h2
      by_cases h3 : a.num < b.num
      · have e3 : decide (a.num < b.num) = true := by simpa using h3
        have hb : B = true := by rw [HB.out]; simp [hk, h2, h3]
        subst hb
        clear h1 h2 h3 hk
        go_enter Try.func37, Try.ntmps37
        go_wp2
        go_ret
        exact ⟨rfl, hsA⟩
      · have e3 : decide (a.num < b.num) = false := by simpa using h3
        have hb : B = false := by rw [HB.out]; simp only [decide_eq_false_iff_not, hk]; omega
        subst hb
        clear h1 h2 h3 hk
        go_enter Try.func37, Try.ntmps37
        go_wp2
        go_ret
        exact ⟨rfl, hsA⟩
    · have e2 : (a.id == b.id) = false := by simpa using h2
      have hb : B = false := by rw [HB.out]; simp only [decide_eq_false_iff_not, hk]; omega
      subst hb
      clear h1 h2 hk
      go_enter Try.func37, Try.ntmps37
      go_wp2
      go_ret
      exact ⟨rfl, hsA⟩
set_option maxHeartbeats 1600000 in
theorem of27 (w : World) (a : Option Addr) (c : Nat) (l : List Tri) (id num : Int) (hr : TriR w a l) (hlen : l.length ≤ maxLen) :
    Calls Try.prog 27 #[.slice a l.length c, .int .i64 id, .int .i64 num] w fun e w' => e = .returned (.int .i64 (Un.ofN l id num)) ∧ w' = w := by
  have HR := Lib.hid hr
  have hn2 : l.length ≤ 9223372036854775807 := by unfold maxLen at hlen; omega
  obtain ⟨n, hn⟩ : ∃ n, n = l.length := ⟨_, rfl⟩
  obtain ⟨R, hRd⟩ : ∃ R, R = Un.ofN l id num := ⟨_, rfl⟩
  rw [← hn] at hn2 ⊢
  rw [← hRd]
  have HN := Lib.hid hn
  have HRD := Lib.hid hRd
  clear hr hn hlen hRd
  go_enter Try.func27, Try.ntmps27
  go_wp2
  go_loopw [7] (fun v7 wx => ∃ (i : Nat) (W : World), W = wx ∧ i ≤ n ∧ v7 = .int .i64 i ∧ Hid (R = Un.ofN (l.drop i) id num ∧ W = w)) (fun v7 _ => n - (intOf v7).toNat)
  case atStart => exact ⟨0, _, rfl, by omega, rfl, Lib.hid ⟨by simpa using HRD.out, rfl⟩⟩
  case round =>
    obtain ⟨i, W, hW, hi, rfl, HI⟩ := hrel
    subst hW
    by_cases hin : i < n
    · have hii : (i : Int) < n := by omega
      obtain ⟨t, ht⟩ : ∃ t, l[i]? = some t := ⟨_, List.getElem?_eq_getElem (by have := HN.out; omega)⟩
      obtain ⟨x, rfl, hx⟩ := HR.out i t ht
      rw [← HI.out.2] at hx
      have x0 := hx.c0
      have x1 := hx.c1
      have x2 := hx.c2
      have HST : Hid (R = if t.id = id ∧ t.num = num then t.n else Un.ofN (l.drop (i + 1)) id num) := Lib.hid (by rw [HI.out.1, drop_cons ht, Un.ofN_cons])
      clear hx ht
      by_cases h1 : t.id = id
      · have e1 : (t.id == id) = true := by simpa using h1
        by_cases h2 : t.num = num
        · have e2 : (t.num == num) = true := by simpa using h2
          have HE := Lib.hid (And.intro h1 h2)
          clear h1 h2
          go_wp2
          go_ret
          exact ⟨by rw [HST.out, if_pos HE.out]; rfl, HI.out.2⟩
        · have e2 : (t.num == num) = false := by simpa using h2
          have HE := Lib.hid h2
          clear h1 h2
          go_wp2
          go_round
          case rel => exact ⟨i + 1, _, rfl, by omega, by go_num, Lib.hid ⟨by rw [HST.out, if_neg (fun h => HE.out h.2)], HI.out.2⟩⟩
          case measure => simp [intOf]; omega
      · have e1 : (t.id == id) = false := by simpa using h1
        have HE := Lib.hid h1
        clear h1
        go_wp2
        go_round
        case rel => exact ⟨i + 1, _, rfl, by omega, by go_num, Lib.hid ⟨by rw [HST.out, if_neg (fun h => HE.out h.1)], HI.out.2⟩⟩
        case measure => simp [intOf]; omega
    · obtain rfl : i = n := by omega
      have h0 : R = 0 := by rw [HI.out.1, HN.out, List.drop_length]; rfl
      have H0 := Lib.hid h0
      clear h0
      go_wp2
      go_ret
      exact ⟨by rw [H0.out]; rfl, HI.out.2⟩
end Go.Proofs.Ytcnocfboklhjnaa
