/- undo: Clear, Of. Conditions: the list's length. -/
import Derived.Test.YtcnocfboklhjnaaDe
namespace Go.Proofs.Ytcnocfboklhjnaa
open Go.RowKit Go.Shelf
attribute [local go_sem] Oper.semAt_some

set_option maxHeartbeats 800000 in
theorem delete_nil (w : World) (base p1 p2 : Nat) (id num : Int) (hc : Cap w p1 p2 id num) :
    Calls Try.prog 42 #[.slice none 0 0, .func (.func 44) #[] #[.pointer (some ⟨p1, 0, none⟩), .pointer (some ⟨p2, 0, none⟩)]] w fun e w' =>
      e = .returned (.slice none 0 0) ∧ Same (fun _ => False) w w' := by
  have hin := index51 w none 0 [] p1 p2 id num (fun i t h => by simp at h) (by decide) hc
  go_enter Try.func42, Try.ntmps42
  go_wp2_with fail
  refine hin.mono ?_
  rintro e w1 ⟨r, hr, rfl, hs1⟩
  have hr1 : r = -1 := by
    rcases hr with ⟨h, _⟩ | ⟨k, _, hk, _⟩
    · exact h
    · simp at hk
  subst hr1
  clear hr hin
  go_wp2
  go_ret
  exact ⟨rfl, hs1⟩
theorem delete_any (w : World) (base : Nat) (v : Value) (L : List Tri) (p1 p2 : Nat) (id num : Int) (hr : w.ownsRow base 45 3 v L.length (flat3 L)) (hlen : L.length ≤ 1000) (hc : Cap w p1 p2 id num) (h1 : p1 < base) (h2 : p2 < base) :
    Calls Try.prog 42 #[v, .func (.func 44) #[] #[.pointer (some ⟨p1, 0, none⟩), .pointer (some ⟨p2, 0, none⟩)]] w fun e w' =>
      ∃ v', e = .returned v' ∧ w'.ownsRow base 45 3 v' (L.filter (keep id num)).length (flat3 (L.filter (keep id num))) ∧ Same (fun k => base ≤ k) w w' := by
  rcases hr.2 with ⟨rfl, h0⟩ | ⟨g, cap, cur, rfl, hb, -⟩
  · have : L = [] := List.length_eq_zero_iff.1 h0
    subst this
    exact (delete_nil w base p1 p2 id num hc).mono fun e w' ⟨he, hs⟩ => ⟨_, he, World.ownsRow_nil .., hs.mono (fun _ _ h => h.elim)⟩
  · exact (delete42 w base g cap L p1 p2 id num hr hlen hc (by omega) (by omega)).mono fun e w' ⟨v', he, ho, hs⟩ => ⟨v', he, ho, hs.mono (fun b _ h => by omega)⟩
theorem own_spot {w : World} {base : Nat} {e : TypeId} {size n : Nat} {xs : List Value} {ao : Option Addr} {c m : Nat} (h : w.ownsRow base e size (.slice ao m c) n xs) : ao = none ∨ ∃ b o, ao = some ⟨b, o, none⟩ := by
  rcases h.2 with ⟨hv, h0⟩ | ⟨g, cap, cur, hv, _⟩
  · cases hv; exact .inl rfl
  · cases hv; exact .inr ⟨_, _, rfl⟩
open Classical in
noncomputable def clrS (L : List Tri) (id num : Int) : Option (List Tri) × Int := if Un.Right L then (some (Un.clr L id num), 0) else (none, 2)
set_option maxHeartbeats 1600000 in
set_option maxRecDepth 16384 in
theorem clear_any (w : World) (a : Option Addr) (c : Nat) (L : List Tri) (id num : Int) (hr : TriR w a L) (hlen : L.length ≤ 1000) (ha : ∀ x, a = some x → x.block < w.heap.size) (hsp : a = none ∨ ∃ b o, a = some ⟨b, o, none⟩) (hnil : a = none → L = []) :
    Calls Try.prog 21 #[.slice a L.length c, .int .i64 id, .int .i64 num] w fun e w' =>
      ∃ v, e = .returned (.tuple #[v, .int .i64 (clrS L id num).2]) ∧ OutL w' w.heap.size v (clrS L id num).1 ∧ Same (fun _ => False) w w' := by
  obtain ⟨R, hRd⟩ : ∃ R, R = clrS L id num := ⟨_, rfl⟩
  rw [← hRd]
  have HRD := Lib.hid hRd
  obtain ⟨WA, hWA⟩ : ∃ WA, WA = (w.alloc (.cells #[.int .i64 id] 3)).alloc (.cells #[.int .i64 num] 3) := ⟨_, rfl⟩
  have hsA : Same (fun _ => False) w WA := by rw [hWA]; exact (same_alloc _).alloc _
  have hzA : WA.heap.size = w.heap.size + 2 := by rw [hWA]; simp
  have hcp : Cap WA w.heap.size (w.heap.size + 1) id num := ⟨by rw [hWA]; simp [go_sem], by rw [hWA]; simp [go_sem]⟩
  have hra := right_any WA a c L (hr.same0 hsA) (by unfold maxLen; omega) (fun x hx => by have := ha x hx; omega)
  have H := Lib.hid (And.intro hr (And.intro hsp hnil))
  have HA := Lib.hid (And.intro hsA hcp)
  obtain ⟨n, hn⟩ : ∃ n, n = L.length := ⟨_, rfl⟩
  rw [← hn] at hra hlen ⊢
  have HN := Lib.hid hn
  clear hr hsp hnil hRd hsA hcp hn
  go_enter Try.func21, Try.ntmps21
  go_wp2_with fail
  rw [← hWA]
  refine hra.mono ?_
  rintro e w1 ⟨b, hb, rfl, hs1⟩
  have HB := Lib.hid hb
  clear hb hra hWA
  cases b with
  | false =>
    have hS : R = (none, 2) := by rw [HRD.out, clrS, if_neg (fun h => by have := HB.out.2 h; cases this)]
    have HS := Lib.hid hS
    clear hS
    go_wp2
    go_ret2
    rw [HS.out]
    exact ⟨_, rfl, rfl, HA.out.1.trans hs1⟩
  | true =>
    have hS : R = (some (L.filter (keep id num)), 0) := by rw [HRD.out, clrS, if_pos (HB.out.1 rfl)]; rfl
    have HS := Lib.hid hS
    have hs01 := HA.out.1.trans hs1
    have hz1 := hs1.size
    have hcl := clone_tri w1 a c L (H.out.1.same0 hs01) (by have := HN.out; omega) H.out.2.1 H.out.2.2
    rw [← HN.out] at hcl
    have hcp1 := HA.out.2.same hs1 (fun h => h) (fun h => h)
    have H1 := Lib.hid (And.intro hs01 hcp1)
    clear hS HB hs1 hs01 hcp1
    go_wp2_with fail
    refine hcl.mono ?_
    rintro e w2 ⟨v, rfl, hown, hs2⟩
    have hdl := delete_any w2 w1.heap.size v L w.heap.size (w.heap.size + 1) id num (by have h := hown; rw [HN.out] at h; exact h) (by have := HN.out; omega) (H1.out.2.same hs2 (fun h => h) (fun h => h)) (by omega) (by omega)
    have H2 := Lib.hid (H1.out.1.trans hs2)
    clear hcl hown hs2
    go_wp2_with fail
    refine hdl.mono ?_
    rintro e w3 ⟨v3, rfl, hown3, hs3⟩
    have H3 := Lib.hid (And.intro hown3 ((H2.out.mono (T := fun b => w1.heap.size ≤ b) (fun _ _ h => h.elim)).trans hs3))
    clear hdl hown3 hs3
    go_wp2
    go_ret2
    rw [HS.out]
    exact ⟨v3, rfl, ownsRow_base H3.out.1 (by omega), H3.out.2.mono (fun b hb h => by omega)⟩
set_option maxHeartbeats 1600000 in
theorem of22 (w : World) (a : Option Addr) (c : Nat) (l : List Tri) (id num : Int) (hr : TriR w a l) (hlen : l.length ≤ maxLen) :
    Calls Try.prog 22 #[.slice a l.length c, .int .i64 id, .int .i64 num] w fun e w' => e = .returned (.int .i64 (Un.ofN l id num)) ∧ Same (fun _ => False) w w' := by
  have HR := Lib.hid hr
  have hn2 : l.length ≤ 9223372036854775807 := by unfold maxLen at hlen; omega
  obtain ⟨n, hn⟩ : ∃ n, n = l.length := ⟨_, rfl⟩
  obtain ⟨R, hRd⟩ : ∃ R, R = Un.ofN l id num := ⟨_, rfl⟩
  rw [← hn] at hn2 ⊢
  rw [← hRd]
  have HN := Lib.hid hn
  have HRD := Lib.hid hRd
  clear hr hn hlen hRd
  go_enter Try.func22, Try.ntmps22
  go_wp2
  go_loopw [11] (fun v11 wx => ∃ (i : Nat) (W : World), W = wx ∧ i ≤ n ∧ v11 = .int .i64 i ∧ Hid (R = Un.ofN (l.drop i) id num ∧ Same (fun _ => False) w W)) (fun v11 _ => n - (intOf v11).toNat)
  case atStart => exact ⟨0, _, rfl, by omega, rfl, Lib.hid ⟨by simpa using HRD.out, Same.refl _ _⟩⟩
  case round =>
    obtain ⟨i, W, hW, hi, rfl, HI⟩ := hrel
    subst hW
    by_cases hin : i < n
    · have hii : (i : Int) < n := by omega
      obtain ⟨t, ht⟩ : ∃ t, l[i]? = some t := ⟨_, List.getElem?_eq_getElem (by have := HN.out; omega)⟩
      obtain ⟨x, rfl, hx⟩ := HR.out.same0 HI.out.2 i t ht
      have x0 := hx.c0
      have x1 := hx.c1
      have x2 := hx.c2
      have hstep : R = if t.id = id ∧ t.num = num then t.n else Un.ofN (l.drop (i + 1)) id num := by rw [HI.out.1, drop_cons ht, Un.ofN_cons]
      have HST := Lib.hid hstep
      have hof := of_any (W.alloc (.cells #[.int .i64 t.id, .int .i64 t.num, .int .i64 t.n] 45)) t
      clear hx ht hstep
      by_cases he : t.id = id ∧ t.num = num
      · have e5 : ∀ W, (binOp .eql 58 (.agg #[.int .i64 t.id, .int .i64 t.num]) (.agg #[.int .i64 id, .int .i64 num])).run Try.prog W = .ok (.bool true) W := fun W => by rw [eql58]; simp [he.1, he.2]
        have HE := Lib.hid he
        clear he
        go_wp2_with (go_at_call 35; refine hof.mono ?_; rintro e w5 ⟨rfl, hs5⟩; have b2 : w5.cell? ⟨W.heap.size, 2, none⟩ = some (.int .i64 t.n) := hs5.cell (by simp [go_sem]) (fun h => h))
        have HS5 := Lib.hid hs5
        clear hs5
        go_ret
        exact ⟨by rw [HST.out, if_pos HE.out]; rfl, HI.out.2.trans ((same_alloc _).trans HS5.out)⟩
      · have e5 : ∀ W, (binOp .eql 58 (.agg #[.int .i64 t.id, .int .i64 t.num]) (.agg #[.int .i64 id, .int .i64 num])).run Try.prog W = .ok (.bool false) W := fun W => by
          rw [eql58]
          have : (t.id == id && t.num == num) = false := by
            rw [Bool.eq_false_iff]
            intro hh
            simp only [Bool.and_eq_true, beq_iff_eq] at hh
            exact he hh
          rw [this]
        have HE := Lib.hid he
        clear he
        go_wp2_with (go_at_call 35; refine hof.mono ?_; rintro e w5 ⟨rfl, hs5⟩)
        have HS5 := Lib.hid hs5
        clear hs5
        go_round
        case rel => exact ⟨i + 1, _, rfl, by omega, by go_num, Lib.hid ⟨by rw [HST.out, if_neg HE.out], HI.out.2.trans ((same_alloc _).trans HS5.out)⟩⟩
        case measure => simp [intOf]; omega
    · obtain rfl : i = n := by omega
      have h0 : R = 0 := by rw [HI.out.1, HN.out, List.drop_length]; rfl
      have H0 := Lib.hid h0
      clear h0
      go_wp2
      go_ret
      exact ⟨by rw [H0.out]; rfl, HI.out.2⟩
end Go.Proofs.Ytcnocfboklhjnaa
