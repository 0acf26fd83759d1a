/- undo: the reference's Right. Conditions: the list's length. -/
import Derived.Test.YtcnocfboklhjnaaQa
namespace Go.Proofs.Ytcnocfboklhjnaa
open Go.RowKit Go.Shelf
attribute [local go_sem] Oper.semAt_some

/-- One stands right behind those ahead of it. -/
def OkAt (L : List Tri) (j : Nat) (t : Tri) : Prop := Un.okA t ∧ (0 < j → ∀ p, L[j - 1]? = some p → Un.klt p.key t.key)
theorem right_at {L : List Tri} : Un.Right L ↔ L.length ≤ 64 ∧ ∀ j t, L[j]? = some t → OkAt L j t := by
  constructor
  · rintro ⟨h1, h2, h3⟩
    refine ⟨h1, fun j t ht => ⟨h2 t (List.mem_of_getElem? ht), fun hj p hp => ?_⟩⟩
    rw [List.pairwise_iff_getElem] at h3
    obtain ⟨hl, rfl⟩ := List.getElem?_eq_some_iff.1 ht
    obtain ⟨hl2, rfl⟩ := List.getElem?_eq_some_iff.1 hp
    exact h3 (j - 1) j hl2 hl (by omega)
  · rintro ⟨h1, h2⟩
    refine ⟨h1, fun t ht => ?_, chain_asc fun i a b ha hb => ?_⟩
    · obtain ⟨j, hj⟩ := List.getElem?_of_mem ht
      exact (h2 j t hj).1
    · exact (h2 (i + 1) b hb).2 (by omega) a ha
set_option maxHeartbeats 3200000 in
set_option maxRecDepth 100000 in
theorem right16 (w : World) (a : Option Addr) (c : Nat) (L : List Tri) (hr : TriR w a L) (hlen : L.length ≤ maxLen) :
    Calls Try.prog 16 #[.slice a L.length c] w fun e w' => ∃ b : Bool, (b = true ↔ Un.Right L) ∧ e = .returned (.bool b) ∧ Same (fun _ => False) w w' := by
  obtain ⟨B, hB⟩ : ∃ B : Bool, (B = true ↔ Un.Right L) := by
    by_cases h : Un.Right L
    · exact ⟨true, by simp [h]⟩
    · exact ⟨false, by simp [h]⟩
  suffices h : Calls Try.prog 16 #[.slice a L.length c] w fun e w' => e = .returned (.bool B) ∧ Same (fun _ => False) w w' from h.mono fun e w' ⟨h1, h2⟩ => ⟨B, hB, h1, h2⟩
  have HBB := Lib.hid hB
  have nB : ¬ Un.Right L → B = false := fun h => by
    cases hb : B
    · rfl
    · exact absurd (hB.1 hb) h
  have NB := Lib.hid nB
  clear hB nB
  have HR := Lib.hid hr
  have hn2 : L.length ≤ 9223372036854775807 := by unfold maxLen at hlen; omega
  obtain ⟨n, hn⟩ : ∃ n, n = L.length := ⟨_, rfl⟩
  rw [← hn] at hn2 ⊢
  have HN := Lib.hid hn
  clear hr hn hlen
  by_cases h64 : 64 < n
  · have e1 : decide ((64 : Int) < n) = true := by simp; omega
    go_enter Try.func16, Try.ntmps16
    go_wp2
    go_ret
    exact ⟨by rw [NB.out (fun h => by have := h.len; have := HN.out; omega)]; rfl, Same.refl _ _⟩
  have e1 : decide ((64 : Int) < n) = false := by simp; omega
  go_enter Try.func16, Try.ntmps16
  go_wp2
  go_loopw [3] (fun v3 wx => ∃ (i : Nat) (W : World), W = wx ∧ i ≤ n ∧ v3 = .int .i64 i ∧ Hid ((∀ j t, j < i → L[j]? = some t → OkAt L j t) ∧ Same (fun _ => False) w W)) (fun v3 _ => n - (intOf v3).toNat)
  case atStart => exact ⟨0, _, rfl, by omega, rfl, Lib.hid ⟨fun j t h => by omega, Same.refl _ _⟩⟩
  case round =>
    obtain ⟨i, W, hW, hi, rfl, HI⟩ := hrel
    subst hW
    by_cases hin : i < n
    · have hii : (i : Int) < n := by omega
      obtain ⟨t, ht⟩ : ∃ t, L[i]? = some t := ⟨_, List.getElem?_eq_getElem (by have := HN.out; omega)⟩
      obtain ⟨x, rfl, hx⟩ := HR.out.same0 HI.out.2 i t ht
      have x0 := hx.c0
      have x1 := hx.c1
      have x2 := hx.c2
      have HT := Lib.hid ht
      have FB : Hid (¬ OkAt L i t → B = false) := Lib.hid (fun h => NB.out (fun hR => h ((right_at.1 hR).2 i t ht)))
      clear hx ht
      by_cases h1 : t.id < 0
      · have d1 : decide (t.id < 0) = true := by simpa using h1
        have hb := FB.out (fun h => by have := h.1.1; omega)
        subst hb
        go_wp2
        go_quiet (fail)
        rename_i nq
        go_wp2
        go_ret
        exact ⟨rfl, HI.out.2.drewN nq⟩
      have d1 : decide (t.id < 0) = false := by simpa using h1
      by_cases h2 : t.num < 0
      · have d2 : decide (t.num < 0) = true := by simpa using h2
        have hb := FB.out (fun h => by have := h.1.2.1; omega)
        subst hb
        go_wp2
        go_quiet (fail)
        rename_i nq
        go_wp2
        go_ret
        exact ⟨rfl, HI.out.2.drewN nq⟩
      have d2 : decide (t.num < 0) = false := by simpa using h2
      by_cases h3 : t.n = 0
      · have d3 : (t.n == 0) = true := by simpa using h3
        have hb := FB.out (fun h => by have := h.1.2.2.1; omega)
        subst hb
        go_wp2
        go_quiet (fail)
        rename_i nq
        go_wp2
        go_ret
        exact ⟨rfl, HI.out.2.drewN nq⟩
      have d3 : (t.n == 0) = false := by simpa using h3
      by_cases h4 : t.n < -32767
      · have d4 : decide (t.n < -32767) = true := by simpa using h4
        have hb := FB.out (fun h => by have := h.1.2.2.2.1; omega)
        subst hb
        go_wp2
        go_quiet (fail)
        rename_i nq
        go_wp2
        go_ret
        exact ⟨rfl, HI.out.2.drewN nq⟩
      have d4 : decide (t.n < -32767) = false := by simpa using h4
      by_cases h5 : 32767 < t.n
      · have d5 : decide (32767 < t.n) = true := by simpa using h5
        have hb := FB.out (fun h => by have := h.1.2.2.2.2; omega)
        subst hb
        go_wp2
        go_quiet (fail)
        rename_i nq
        go_wp2
        go_ret
        exact ⟨rfl, HI.out.2.drewN nq⟩
      have d5 : decide (32767 < t.n) = false := by simpa using h5
      have HOK : Hid (Un.okA t) := Lib.hid ⟨by omega, by omega, h3, by omega, by omega⟩
      clear h1 h2 h3 h4 h5
      by_cases h6 : i = 0
      · have d6 : decide ((0 : Int) < (i : Int)) = false := by simp; omega
        have d7 : decide (0 < i) = false := by simp; omega
        have H6 := Lib.hid h6
        clear h6
        go_wp2
        go_quiet (fail)
        rename_i nq
        go_wp2
        go_round
        case rel =>
          refine ⟨i + 1, _, rfl, by omega, by go_num, Lib.hid ⟨fun j u hj hu => ?_, HI.out.2.drewN nq⟩⟩
          have := H6.out
          obtain rfl : j = i := by omega
          rw [HT.out] at hu
          cases hu
          exact ⟨HOK.out, fun h => by omega⟩
        case measure => simp [intOf]; omega
      · have d6 : decide ((0 : Int) < (i : Int)) = true := by simp; omega
        have d7 : decide (0 < i) = true := by simp; omega
        have d8 : 0 < i := by omega
        have h6' : (0 : Int) < (i : Int) := by omega
        obtain ⟨k, hk⟩ : ∃ k : Nat, (i : Int) - 1 = k := ⟨i - 1, by omega⟩
        have hkn : (k : Int) < n := by omega
        have hkw : IntKind.i64.wrap ((i : Int) - 1) = k := by rw [hk]; simp [IntKind.wrap, IntKind.bits, IntKind.signed]; omega
        obtain ⟨p, hp⟩ : ∃ p, L[k]? = some p := ⟨_, List.getElem?_eq_getElem (by have := HN.out; omega)⟩
        obtain ⟨y, hy1, hy⟩ := HR.out.same0 HI.out.2 k p hp
        cases hy1
        have y0 := hy.c0
        have y1 := hy.c1
        have y2 := hy.c2
        have HP := Lib.hid (And.intro hp hk)
        clear hy hp h6
        go_wp2
        have hah := ahead_any W.drew p t
        have hkw2 : IntKind.i64.wrap (k : Int) = k := by simp [IntKind.wrap, IntKind.bits, IntKind.signed]; omega
        have hs5' : Same (fun _ => False) w W.drew := HI.out.2.drew
        have HS5 := Lib.hid hs5'
        clear hs5'
        by_cases hlt : Un.klt p.key t.key
        · rw [decide_eq_true hlt] at hah
          have HLT := Lib.hid hlt
          clear hlt
          go_still_tail 51, (by kernel_rfl)
          go_wp2_with fail
          refine hah.mono ?_
          rintro e w5 ⟨rfl, hs5⟩
          have H5 := Lib.hid (HS5.out.trans hs5)
          clear hs5 hah
          go_wp2
          go_round
          case rel =>
            refine ⟨i + 1, _, rfl, by omega, by go_num, Lib.hid ⟨fun j u hj hu => ?_, H5.out⟩⟩
            by_cases hji : j = i
            · subst hji
              rw [HT.out] at hu
              cases hu
              refine ⟨HOK.out, fun _ q hq => ?_⟩
              have e : j - 1 = k := by have := HP.out.2; omega
              rw [e, HP.out.1] at hq
              cases hq
              exact HLT.out
            · exact HI.out.1 j u (by omega) hu
          case measure => simp [intOf]; omega
        · rw [decide_eq_false hlt] at hah
          have hb := FB.out (fun h => by
            have e : i - 1 = k := by have := HP.out.2; omega
            exact hlt (h.2 d8 p (by rw [e]; exact HP.out.1)))
          subst hb
          clear hlt
          go_still_tail 51, (by kernel_rfl)
          go_wp2_with fail
          refine hah.mono ?_
          rintro e w5 ⟨rfl, hs5⟩
          have H5 := Lib.hid (HS5.out.trans hs5)
          clear hs5 hah
          go_wp2
          go_ret
          exact ⟨rfl, H5.out⟩
    · obtain rfl : i = n := by omega
      have hb : B = true := HBB.out.2 (right_at.2 ⟨by have := HN.out; omega, fun j t hj => HI.out.1 j t (by have := (List.getElem?_eq_some_iff.1 hj).1; have := HN.out; omega) hj⟩)
      subst hb
      go_wp2
      go_ret
      exact ⟨rfl, HI.out.2⟩
end Go.Proofs.Ytcnocfboklhjnaa
