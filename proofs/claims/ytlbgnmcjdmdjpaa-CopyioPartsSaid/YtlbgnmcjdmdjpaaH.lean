import Derived.Test.YtlbgnmcjdmdjpaaG
namespace Go.Proofs.Ytlbgnmcjdmdjpaa
open Go.RowKit Go.Shelf
attribute [local go_sem] Oper.semAt_some

theorem loadVar114 (w : World) (b o : Nat) (x y : Value) (h : w.cell? ⟨b, o, none⟩ = some x) (h1 : w.cell? ⟨b, o + 1, none⟩ = some y) : (loadVar 114 ⟨b, o, none⟩).run Try.prog w = .ok (.agg #[x, y]) w := by simp [go_sem, h, h1]
abbrev In64 (p : Int) : Prop := -9223372036854775808 ≤ p ∧ p ≤ 9223372036854775807
theorem of_any (w : World) (p : Int) (hp : In64 p) : Calls Try.prog 62 #[.int .i64 p] w fun e w' => e = .returned (.agg #[.int .i64 (p.tdiv 16), .int .i64 (p.tmod 16)]) ∧ Same (fun _ => False) w w' := by
  go_enter Try.func62, Try.ntmps62
  go_wp2
  exact bodyPost_ret (results_cell1 rfl (by rfl) (loadVar114 _ _ _ _ _ (by simp) (by simp))) rfl ⟨rfl, (same_alloc _)⟩

def Mm.check (M : Mm) (root page : Int) : Int := if M.isUsed root = true then (if 0 ≤ page ∧ page ≤ 255 then 0 else 2) else 10
theorem Mm.refs_zero (M : Mm) (a : Int) : M.refs a = 0 ↔ M.isUsed a = false := by
  unfold Mm.refs
  cases hu : M.isUsed a with
  | false => simp
  | true =>
    obtain ⟨k, rfl, hk, hR⟩ := Mm.used_iff hu
    simp; omega
theorem check_nil (w : World) (root page : Int) : Calls Try.prog 58 #[.pointer none, .int .i64 root, .int .i64 page] w fun e w' => e = .returned (.int .i64 1) ∧ w = w' := by
  go_enter Try.func58, Try.ntmps58
  go_wp2
  go_ret
  exact ⟨rfl, rfl⟩
theorem check_any {w : World} {f fb : Nat} {M : Mm} (h : MemAt w f fb M) (root page : Int) :
    Calls Try.prog 58 #[.pointer (some ⟨f, 0, none⟩), .int .i64 root, .int .i64 page] w fun e w' => e = .returned (.int .i64 (M.check root page)) ∧ Same (fun _ => False) w w' := by
  cases hu : M.isUsed root with
  | false =>
    have hr := (M.refs_zero root).2 hu
    have hc : M.check root page = 10 := by simp [Mm.check, hu]
    rw [hc]
    go_enter Try.func58, Try.ntmps58
    go_wp2_with fail
    refine (refs_any h root).mono ?_
    rintro e w' ⟨rfl, hs⟩
    rw [hr]
    go_wp2
    go_ret
    exact ⟨rfl, hs⟩
  | true =>
    have hr : (M.refs root == 0) = false := by
      rw [beq_eq_false_iff_ne]
      intro h0
      rw [(M.refs_zero root).1 h0] at hu; cases hu
    by_cases hp : 0 ≤ page ∧ page ≤ 255
    · have hc : M.check root page = 0 := by simp [Mm.check, hu, hp]
      have hd : decide (0 ≤ page ∧ page ≤ 255) = true := decide_eq_true hp
      rw [hc]
      clear hp
      go_enter Try.func58, Try.ntmps58
      go_wp2_with fail
      refine (refs_any h root).mono ?_
      rintro e w' ⟨rfl, hs⟩
      go_wp2_with fail
      refine (inside1 _ _ 255 page (by simp)).mono ?_
      rintro e w2 ⟨rfl, hs2⟩
      rw [hd]
      go_wp2
      go_ret
      exact ⟨rfl, (hs.trans (same_alloc _)).trans hs2⟩
    · have hc : M.check root page = 2 := by simp [Mm.check, hu, hp]
      have hd : decide (0 ≤ page ∧ page ≤ 255) = false := decide_eq_false hp
      rw [hc]
      clear hp
      go_enter Try.func58, Try.ntmps58
      go_wp2_with fail
      refine (refs_any h root).mono ?_
      rintro e w' ⟨rfl, hs⟩
      go_wp2_with fail
      refine (inside1 _ _ 255 page (by simp)).mono ?_
      rintro e w2 ⟨rfl, hs2⟩
      rw [hd]
      go_wp2
      go_ret
      exact ⟨rfl, (hs.trans (same_alloc _)).trans hs2⟩
end Go.Proofs.Ytlbgnmcjdmdjpaa
