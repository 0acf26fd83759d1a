/- files: the reference's Drop; Same. Conditions: its form. -/
import Derived.Test.YtcllofffbmbmlaaRe
namespace Go.Proofs.Ytcllofffbmbmlaa
open Go.RowKit Go.Shelf
attribute [local go_sem] Oper.semAt_some

def fdropTo (R : List Fr) (p : Int) : Nat → List Fr
  | 0 => R
  | i + 1 => if p < 1 then fdropTo R p i else fdel (fdropTo R p i) p i
def foutTo (R : List Fr) (p : Int) : Nat → List (Int × Int)
  | 0 => []
  | i + 1 => if p < 1 then foutTo R p i else match fat (fdropTo R p i) p i with
    | none => foutTo R p i
    | some x => if frefs (fdel (fdropTo R p i) p i) x.file = 0 then foutTo R p i ++ [(x.kind, x.thing)] else foutTo R p i
theorem fdel_none {R : List Fr} {p q : Int} (h : fat R p q = none) : fdel R p q = R := by
  unfold fdel
  rw [List.filter_eq_self]
  unfold fat at h
  rw [List.find?_eq_none] at h
  intro x hx
  have := h x hx
  simp only [decide_not, Bool.not_eq_eq_eq_not, Bool.not_true, decide_eq_false_iff_not]
  exact fun hh => this (decide_eq_true hh)
theorem fdropTo_key {R : List Fr} {p : Int} (h : FKey R) : ∀ i, FKey (fdropTo R p i)
  | 0 => h
  | i + 1 => by
    unfold fdropTo
    by_cases hp : p < 1
    · rw [if_pos hp]; exact fdropTo_key h i
    · rw [if_neg hp]; exact (fdropTo_key h i).filter _
theorem foutTo_le (R : List Fr) (p : Int) : ∀ i, (foutTo R p i).length ≤ i
  | 0 => by simp [foutTo]
  | i + 1 => by
    have ih := foutTo_le R p i
    unfold foutTo
    split
    · omega
    · split
      · omega
      · split
        · simp; omega
        · omega
theorem close_step {R R' : List Fr} {p : Int} {i : Nat} {K T er : Int} {g : Bool} (h : CloseF (fdropTo R p i) p i R' K T g er) :
    R' = fdropTo R p (i + 1) ∧ ((er ≠ 0 ∧ foutTo R p (i + 1) = foutTo R p i) ∨ (er = 0 ∧ g = false ∧ foutTo R p (i + 1) = foutTo R p i) ∨ (er = 0 ∧ g = true ∧ foutTo R p (i + 1) = foutTo R p i ++ [(K, T)])) := by
  cases h with
  | arg hp => simp [fdropTo, foutTo, hp]
  | fd hp hf => 
    have hp' : ¬ p < 1 := by omega
    simp [fdropTo, foutTo, hp', hf, fdel_none hf]
  | ok x hp hf =>
    have hp' : ¬ p < 1 := by omega
    refine ⟨by simp [fdropTo, hp'], ?_⟩
    right
    by_cases hz : frefs (fdel (fdropTo R p i) p i) x.file = 0
    · right; simp [foutTo, hp', hf, hz]
    · left; simp [foutTo, hp', hf, hz]
theorem not_rown {s : Nat} {w : World} {b : Nat} {t n : Nat} (hs : w.shape? b = some (t, n)) (ht : t ≠ 51 ∧ t ≠ 75) : ¬ ROwn s w b := by
  rintro ⟨_, t', n', h, h'⟩
  rw [hs] at h
  simp only [Option.some.injEq, Prod.mk.injEq] at h
  obtain ⟨rfl, _⟩ := h
  rcases h' with h' | h'
  · exact ht.1 h'
  · exact ht.2 h'
theorem add_rown {w w1 w2 : World} {s : Nat} {S : Nat → Prop} (h1 : Same (ROwn s w) w w1) (h2 : Same S w1 w2) (hS : ∀ k, S k → w.heap.size ≤ k) : Same (ROwn s w) w w2 :=
  h1.trans' h2 (fun k hk hlt => by have := hS k hk; omega)
set_option maxHeartbeats 3200000 in
set_option maxRecDepth 16384 in
theorem rdrop_any {s : Nat} {w : World} {r : Nat} {ao : Option Addr} {cap : Nat} {R : List Fr} {last : Nat} (h : RAt s w r ao cap R last) (hk : FKey R) (p : Int) :
    Calls Try.prog 33 #[.pointer (some ⟨r, 0, none⟩), .int .i64 p] w fun e w' => ∃ v, e = .returned v ∧ w'.ownsRow w.heap.size 23 2 v (foutTo R p 8).length (flat (foutTo R p 8)) ∧ RStep s w r (fdropTo R p 8) last w' := by
  have H := Lib.hid (And.intro h hk)
  clear h hk
  go_enter Try.func33, Try.ntmps33
  go_wp2
  go_loopw [5, 6] (fun v5 v6 wx => ∃ (i : Nat) (W : World), W = wx ∧ i ≤ 8 ∧ v6 = .int .i64 i ∧ Hid (W.ownsRow w.heap.size 23 2 v5 (foutTo R p i).length (flat (foutTo R p i)) ∧ RStep s w r (fdropTo R p i) last W)) (fun _ v6 _ => 8 - (intOf v6).toNat)
  case atStart => exact ⟨0, _, rfl, by omega, rfl, Lib.hid ⟨World.ownsRow_nil _ _ _ _, _, _, H.out.1, Same.refl _ _⟩⟩
  case round =>
    obtain ⟨i, W, hW, hi8, rfl, HI⟩ := hrel
    subst hW
    by_cases hil : i < 8
    · have hii : (i : Int) < 8 := by omega
      obtain ⟨hrow, ao1, cap1, hR, hs⟩ := HI.out
      have HW := Lib.hid (And.intro hrow hs)
      have hcl := rclose_any hR (fdropTo_key (p := p) H.out.2 i) p i
      clear hrow hs hR
      go_wp2_with fail
      refine hcl.mono ?_
      rintro e w1 ⟨R', K, T, g, er, rfl, hcf, ao2, cap2, hR2, hs2⟩
      clear hcl
      obtain ⟨rfl, hst⟩ := close_step hcf
      have hrow1 := ownsRow_same HW.out.1 hs2 (fun b hb => by
        obtain ⟨_, _, k, hk⟩ := ownsRow_shape HW.out.1 hb
        exact not_rown hk (by decide))
      have hs1 := rown_trans HW.out.2 hs2
      have hsz := hs1.size
      have H1 := Lib.hid (And.intro hrow1 (And.intro hR2 hs1))
      have hle := foutTo_le R p i
      clear hcf hrow1 hR2 hs2 hs1
      rcases hst with ⟨her, hst⟩ | ⟨rfl, rfl, hst⟩ | ⟨rfl, rfl, hst⟩
      · have her' : (er == 0) = false := by simpa using her
        have HST := Lib.hid hst
        have sA := same_alloc (W := w1) (.cells #[.int .i64 K, .int .i64 T] 23)
        have FIN := Lib.hid (show (w1.alloc (.cells #[.int .i64 K, .int .i64 T] 23)).ownsRow w.heap.size 23 2 _ (foutTo R p (i + 1)).length (flat (foutTo R p (i + 1))) ∧ RStep s w r (fdropTo R p (i + 1)) last (w1.alloc (.cells #[.int .i64 K, .int .i64 T] 23)) from
          ⟨by rw [hst]; exact ownsRow_same H1.out.1 sA (fun _ _ h => h), _, _, H1.out.2.1.same0 sA, rown_trans H1.out.2.2 (rown_of sA)⟩)
        clear her hst sA
        go_wp2
        go_round
        case rel => exact ⟨i + 1, _, rfl, by omega, by go_num, FIN⟩
        case measure => simp [intOf]; omega
      · have HST := Lib.hid hst
        have sA := same_alloc (W := w1) (.cells #[.int .i64 K, .int .i64 T] 23)
        have FIN := Lib.hid (show (w1.alloc (.cells #[.int .i64 K, .int .i64 T] 23)).ownsRow w.heap.size 23 2 _ (foutTo R p (i + 1)).length (flat (foutTo R p (i + 1))) ∧ RStep s w r (fdropTo R p (i + 1)) last (w1.alloc (.cells #[.int .i64 K, .int .i64 T] 23)) from
          ⟨by rw [hst]; exact ownsRow_same H1.out.1 sA (fun _ _ h => h), _, _, H1.out.2.1.same0 sA, rown_trans H1.out.2.2 (rown_of sA)⟩)
        clear hst sA
        go_wp2
        go_round
        case rel => exact ⟨i + 1, _, rfl, by omega, by go_num, FIN⟩
        case measure => simp [intOf]; omega
      · have sA : Same (fun _ => False) w1 ((w1.alloc (.cells #[.int .i64 K, .int .i64 T] 23)).alloc (.cells #[.int .i64 K, .int .i64 T] 23)) := (same_alloc _).alloc _
        obtain ⟨i0, hi0, hq0, hq1, hq2⟩ := info_parts Try.info23
        obtain ⟨v', w6, hrun, hown6, hsame6⟩ := run_append_same (P := Try.prog) _ w.heap.size 35 35 23 i0 (.agg #[.int .i64 0, .int .i64 0]) 2 16 Try.underlying35 hi0 hq0 hq1 hq2 rfl (by decide) _ _ _ (ownsRow_same H1.out.1 sA (fun _ _ h => h)) ⟨w1.heap.size + 1, 0, none⟩ 1 1 [.int .i64 K, .int .i64 T] rfl (fun j u hu => cells_new (by simp) hu) (by simp [Value.oneCell']) (by unfold maxLen; omega) (by omega) (by simp; omega)
        have hkl : (foutTo R p (i + 1)).length = (foutTo R p i).length + 1 := by rw [hst, List.length_append]; rfl
        have hS : ∀ k, _ → w.heap.size ≤ k := fun k e => (ownsRow_shape H1.out.1 e).1
        have FIN := Lib.hid (show w6.ownsRow w.heap.size 23 2 v' (foutTo R p (i + 1)).length (flat (foutTo R p (i + 1))) ∧ RStep s w r (fdropTo R p (i + 1)) last w6 from
          ⟨by rw [hkl, hst]; simpa [flat] using hown6, _, _, (H1.out.2.1.same0 sA).same hsame6 (fun b _ e => by
            obtain ⟨_, _, k, hk⟩ := ownsRow_shape (ownsRow_same H1.out.1 sA (fun _ _ h => h)) e
            exact not_rown hk (by decide)), add_rown (rown_trans H1.out.2.2 (rown_of sA)) hsame6 hS⟩)
        have HRUN := Lib.hid hrun
        clear hkl hS hrun hown6 hsame6 sA hst
        go_wp2_with (at_builtin; refine wpList_append_run rfl (.tmp 27) (.tmp 29) 35 rfl _ _ rfl rfl HRUN.out ?_)
        go_round
        case rel => exact ⟨i + 1, _, rfl, by omega, by go_num, FIN⟩
        case measure => simp [intOf]; omega
    · obtain rfl : i = 8 := by omega
      go_wp2
      go_ret
      exact ⟨_, rfl, HI.out.1, HI.out.2⟩
theorem flat_at : ∀ {l : List (Int × Int)} {i : Nat} {x : Int × Int}, l[i]? = some x → (flat l)[i * 2]? = some (.int .i64 x.1) ∧ (flat l)[i * 2 + 1]? = some (.int .i64 x.2)
  | [], i, x, h => by simp at h
  | y :: l, 0, x, h => by
    simp only [List.getElem?_cons_zero, Option.some.injEq] at h
    subst h
    exact ⟨rfl, rfl⟩
  | y :: l, i + 1, x, h => by
    have ih := flat_at (l := l) (i := i) (x := x) (by simpa using h)
    have e : flat (y :: l) = .int .i64 y.1 :: .int .i64 y.2 :: flat l := rfl
    rw [e, show (i + 1) * 2 = i * 2 + 1 + 1 by omega, List.getElem?_cons_succ, List.getElem?_cons_succ, show i * 2 + 1 + 1 + 1 = (i * 2 + 1) + 1 + 1 by omega, List.getElem?_cons_succ, List.getElem?_cons_succ]
    exact ih
set_option maxHeartbeats 1600000 in
theorem same_true {w : World} {s1 s2 : Nat} {v1 v2 : Value} {l : List (Int × Int)} (h1 : w.ownsRow s1 23 2 v1 l.length (flat l)) (h2 : w.ownsRow s2 23 2 v2 l.length (flat l)) (hl : l.length ≤ 1000) :
    Calls Try.prog 32 #[v1, v2] w fun e w' => e = .returned (.bool true) ∧ Same (fun _ => False) w w' := by
  obtain ⟨a1, c1, rfl, -⟩ := own_row_any2 h1
  obtain ⟨a2, c2, rfl, -⟩ := own_row_any2 h2
  obtain ⟨n, hn⟩ : ∃ n, n = l.length := ⟨_, rfl⟩
  have step : ∀ i, i < n → ∃ g1 g2 x, a1 = some ⟨g1, 0, none⟩ ∧ a2 = some ⟨g2, 0, none⟩ ∧ w.cell? ⟨g1, i * 2, none⟩ = some (.int .i64 (Prod.fst x)) ∧ w.cell? ⟨g1, i * 2 + 1, none⟩ = some (.int .i64 (Prod.snd x)) ∧ w.cell? ⟨g2, i * 2, none⟩ = some (.int .i64 x.1) ∧ w.cell? ⟨g2, i * 2 + 1, none⟩ = some (.int .i64 x.2) := by
    intro i hi
    obtain ⟨x, hx⟩ : ∃ x, l[i]? = some x := ⟨_, List.getElem?_eq_getElem (by omega)⟩
    obtain ⟨e1, e2⟩ := flat_at hx
    rcases own_nil_or h1 with ⟨_, h0, _⟩ | ⟨g1, rfl⟩
    · omega
    rcases own_nil_or h2 with ⟨_, h0, _⟩ | ⟨g2, rfl⟩
    · omega
    refine ⟨g1, g2, x, rfl, rfl, ?_, ?_, ?_, ?_⟩
    · rw [h1.cellAt (i * 2) (by omega)]; exact e1
    · rw [h1.cellAt (i * 2 + 1) (by omega)]; exact e2
    · rw [h2.cellAt (i * 2) (by omega)]; exact e1
    · rw [h2.cellAt (i * 2 + 1) (by omega)]; exact e2
  have STEP := Lib.hid step
  rw [← hn] at hl ⊢
  clear h1 h2 step hn
  go_enter Try.func32, Try.ntmps32
  go_wp2
  go_loopw [5] (fun v5 wx => ∃ (i : Nat) (W : World), W = wx ∧ i ≤ n ∧ v5 = .int .i64 i ∧ Same (fun _ => False) w W) (fun v5 _ => n - (intOf v5).toNat)
  case atStart => exact ⟨0, _, rfl, by omega, rfl, Same.refl _ _⟩
  case round =>
    obtain ⟨i, W, hW, hin, rfl, hs⟩ := hrel
    subst hW
    by_cases hil : i < n
    · have hii : (i : Int) < n := by omega
      obtain ⟨g1, g2, x, rfl, rfl, e1, e2, e3, e4⟩ := STEP.out i hil
      have d1 := hs.cell e1 (fun h => h)
      have d2 := hs.cell e2 (fun h => h)
      have d3 := hs.cell e3 (fun h => h)
      have d4 := hs.cell e4 (fun h => h)
      have HS := Lib.hid hs
      clear e1 e2 e3 e4 hs
      go_wp2
      go_quiet (fail)
      go_wp2
      go_round
      case rel => exact ⟨i + 1, _, rfl, by omega, by go_num, HS.out.drewN _⟩
      case measure => simp [intOf]; omega
    · obtain rfl : i = n := by omega
      go_wp2
      go_ret
      exact ⟨rfl, hs⟩
end Go.Proofs.Ytcllofffbmbmlaa
