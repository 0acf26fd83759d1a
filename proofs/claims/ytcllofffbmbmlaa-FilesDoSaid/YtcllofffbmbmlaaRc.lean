/- files: the reference's Dup. Conditions: its form. -/
import Derived.Test.YtcllofffbmbmlaaRb
namespace Go.Proofs.Ytcllofffbmbmlaa
open Go.RowKit Go.Shelf
attribute [local go_sem] Oper.semAt_some

inductive DupF (R : List Fr) (p q : Int) : List Fr → Int → Int → Prop
  | arg : p < 1 → DupF R p q R 0 2
  | fd : 1 ≤ p → fat R p q = none → DupF R p q R 0 80
  | fds (x : Fr) : 1 ≤ p → fat R p q = some x → (∀ k : Nat, k < 8 → fat R p k ≠ none) → DupF R p q R 0 81
  | ok (x : Fr) (k : Nat) : 1 ≤ p → fat R p q = some x → k < 8 → fat R p k = none → (∀ j : Nat, j < k → fat R p j ≠ none) → DupF R p q (R ++ [⟨p, k, x.file, x.kind, x.thing⟩]) k 0
set_option maxHeartbeats 3200000 in
set_option maxRecDepth 16384 in
theorem rdup_any {s : Nat} {w : World} {r : Nat} {ao : Option Addr} {cap : Nat} {R : List Fr} {last : Nat} (h : RAt s w r ao cap R last) (hn : R.length < 1000) (p q : Int) :
    Calls Try.prog 29 #[.pointer (some ⟨r, 0, none⟩), .int .i64 p, .int .i64 q] w fun e w' => ∃ R' k er, e = .returned (.tuple #[.int .i64 k, .int .i64 er]) ∧ DupF R p q R' k er ∧ RStep s w r R' last w' := by
  have HST := Lib.hid (h.stay (Same.refl _ w))
  by_cases hp : p < 1
  · clear h
    go_enter Try.func29, Try.ntmps29
    go_wp2
    go_ret2
    exact ⟨_, _, _, rfl, .arg (by omega), HST.out⟩
  · have HP := Lib.hid (show 1 ≤ p by omega)
    have ha := at_any h p q
    have H := Lib.hid h
    rcases fat_cases R p q with ⟨h0, h1, -⟩ | ⟨i, x, h0, hx, h1, hxp, -, -⟩
    · have H0 := Lib.hid h0
      rw [h1] at ha
      clear h h0 h1
      go_enter Try.func29, Try.ntmps29
      go_wp2_with fail
      refine ha.mono ?_
      rintro e w1 ⟨rfl, rfl⟩
      go_wp2
      go_ret2
      exact ⟨_, _, _, rfl, .fd HP.out H0.out, HST.out⟩
    · have H0 := Lib.hid h0
      have HX := Lib.hid (And.intro hx hxp)
      rw [h1] at ha
      have hi0 : ¬ (i : Int) < 0 := by omega
      clear h h0 h1 hx hxp
      go_enter Try.func29, Try.ntmps29
      go_wp2_with fail
      refine ha.mono ?_
      rintro e w1 ⟨rfl, rfl⟩
      clear ha
      go_wp2_with fail
      refine (rfree_any H.out p).mono ?_
      rintro e w2 ⟨k, rfl, hk, rfl⟩
      rcases hk with ⟨rfl, hk⟩ | ⟨k, hk8, rfl, hk0, hkj⟩
      · have HK := Lib.hid hk
        clear hk
        go_wp2
        go_ret2
        exact ⟨_, _, _, rfl, .fds x HP.out H0.out HK.out, HST.out⟩
      · have HK := Lib.hid (And.intro hk0 hkj)
        have hk00 : ¬ (k : Int) < 0 := by omega
        obtain ⟨hx, hxp⟩ := HX.out
        have hc0 := H.out.c0
        obtain ⟨g, rfl, hc⟩ := H.out.at_ hx
        have d0 : w2.cell? ⟨g, i * 5, none⟩ = some (.int .i64 x.pid) := hc 0 _ rfl
        have d1 := hc 1 _ rfl
        have d2 := hc 2 _ rfl
        have d3 := hc 3 _ rfl
        have d4 := hc 4 _ rfl
        rw [hxp] at d0
        have hil := (List.getElem?_eq_some_iff.1 hx).1
        obtain ⟨n, hn'⟩ : ∃ n, n = R.length := ⟨_, rfl⟩
        have HN := Lib.hid hn'
        rw [← hn'] at hc0 hil hn
        have hin : (i : Int) < n := by omega
        clear hk0 hkj hc hx hxp hn'
        go_wp2
        have hs2 : Same (fun _ => False) w2 (w2.alloc (.cells #[.int .i64 p, .int .i64 k, .int .i64 x.file, .int .i64 x.kind, .int .i64 x.thing] 75)) := same_alloc _
        have hR2 := H.out.same0 hs2
        have k0 : (w2.alloc (.cells #[.int .i64 p, .int .i64 k, .int .i64 x.file, .int .i64 x.kind, .int .i64 x.thing] 75)).cell? ⟨w2.heap.size, 0, none⟩ = some (.int .i64 p) := by simp
        have k1 : (w2.alloc (.cells #[.int .i64 p, .int .i64 k, .int .i64 x.file, .int .i64 x.kind, .int .i64 x.thing] 75)).cell? ⟨w2.heap.size, 1, none⟩ = some (.int .i64 k) := by simp
        have k2 : (w2.alloc (.cells #[.int .i64 p, .int .i64 k, .int .i64 x.file, .int .i64 x.kind, .int .i64 x.thing] 75)).cell? ⟨w2.heap.size, 2, none⟩ = some (.int .i64 x.file) := by simp
        have k3 : (w2.alloc (.cells #[.int .i64 p, .int .i64 k, .int .i64 x.file, .int .i64 x.kind, .int .i64 x.thing] 75)).cell? ⟨w2.heap.size, 3, none⟩ = some (.int .i64 x.kind) := by simp
        have k4 : (w2.alloc (.cells #[.int .i64 p, .int .i64 k, .int .i64 x.file, .int .i64 x.kind, .int .i64 x.thing] 75)).cell? ⟨w2.heap.size, 4, none⟩ = some (.int .i64 x.thing) := by simp
        generalize w2.alloc (.cells #[.int .i64 p, .int .i64 k, .int .i64 x.file, .int .i64 x.kind, .int .i64 x.thing] 75) = w3 at hR2 hs2 k0 k1 k2 k3 k4 ⊢
        have sA : Same (fun _ => False) w3 (w3.alloc (.cells #[.int .i64 p, .int .i64 k, .int .i64 x.file, .int .i64 x.kind, .int .i64 x.thing] 75)) := same_alloc _
        obtain ⟨ao', cap', w6, hrun, x0, xz, hR6, hs6⟩ := hR2.push ⟨p, k, x.file, x.kind, x.thing⟩ (by have := HN.out; omega) sA.drew w3.heap.size (fun j u hu => by rw [World.cell?_drew]; exact cells_new rfl hu)
        have u0 := hR2.c0
        have v0 := sA.cell u0 (fun h => h)
        have j0 := sA.cell k0 (fun h => h)
        have j1 := sA.cell k1 (fun h => h)
        have j2 := sA.cell k2 (fun h => h)
        have j3 := sA.cell k3 (fun h => h)
        have j4 := sA.cell k4 (fun h => h)
        have FIN := Lib.hid (And.intro hR6 (rown_trans (rown_of hs2) hs6))
        rw [← HN.out] at hrun x0 u0 v0 FIN
        clear hR2 hs2 sA hR6 hs6 d0 d1 d2 d3 d4 hc0
        apply wp_to (X := w6.setCell ⟨r, 0, none⟩ (.slice ao' (n + 1) cap'))
        case h1 =>
          go_region_law (refine step_append_run rfl (.tmp 37) (.tmp 39) 49 rfl _ _ rfl rfl hrun ?_)
          all_goals exact ⟨rfl, rfl⟩
        clear hrun x0 xz u0 v0 j0 j1 j2 j3 j4 k0 k1 k2 k3 k4
        go_wp2
        go_ret2
        exact ⟨_, _, _, rfl, .ok x k HP.out H0.out hk8 HK.out.1 HK.out.2, _, _, FIN.out⟩
end Go.Proofs.Ytcllofffbmbmlaa
