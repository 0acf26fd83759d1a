import Derived.Test.YtcllofffbmbmlaaM
namespace Go.Proofs.Ytcllofffbmbmlaa
open Go.RowKit Go.Shelf
attribute [local go_sem] Oper.semAt_some

/-- What an act may do to the descriptors. -/
structure DoneR (L : List Ent) (d pid fd : Int) (L' : List Ent) : Prop where
  len : L'.length ≤ L.length + 8
  others : ∀ o : Int, o ≠ pid → (d % 8 ≠ 6 ∨ o ≠ fd) → ∀ q, ent L' o q = ent L o q
  mem : ∀ e ∈ L', e ∈ L ∨ e.pid = pid ∨ (d % 8 = 6 ∧ e.pid = fd)
theorem DoneR.same {L : List Ent} {d pid fd : Int} : DoneR L d pid fd L := ⟨by omega, fun _ _ _ _ => rfl, fun _ h => .inl h⟩
theorem DoneR.cons {L : List Ent} {d pid fd : Int} {e : Ent} (h : e.pid = pid) : DoneR L d pid fd (e :: L) :=
  ⟨by simp, fun o ho _ q => by rw [ent_cons, if_neg (by omega)], fun x hx => (List.mem_cons.1 hx).elim (fun h' => .inr (.inl (h' ▸ h))) .inl⟩
theorem DoneR.del {L : List Ent} {d pid fd : Int} {q : Int} : DoneR L d pid fd (del L pid q) :=
  ⟨Nat.le_trans (List.length_filter_le _ _) (by omega), fun o ho _ q' => by rw [ent_del, if_neg (by omega)], fun x hx => .inl (List.mem_filter.1 hx).1⟩
theorem DoneR.drop {L : List Ent} {d pid fd : Int} (i : Nat) : DoneR L d pid fd (dropTo L pid i) := by
  refine ⟨Nat.le_trans (length_dropTo _ _ _) (by omega), fun o ho _ q' => by rw [ent_dropTo, if_neg (by omega)], fun x hx => .inl ?_⟩
  induction i with
  | zero => exact hx
  | succ i ih =>
    simp only [dropTo] at hx
    split at hx
    · exact ih hx
    · exact ih (List.mem_filter.1 hx).1
theorem DoneR.fork {L : List Ent} {d pid child : Int} (hd : d % 8 = 6) (hno : ∀ k : Nat, ent L child k = none) : DoneR L d pid child (forkTo L pid child 8) := by
  refine ⟨length_forkTo _ _ _ _, fun o ho h q' => by rw [ent_forkTo hno, if_neg (by omega)], ?_⟩
  have : ∀ i, ∀ e ∈ forkTo L pid child i, e ∈ L ∨ e.pid = child := by
    intro i
    induction i with
    | zero => exact fun e he => .inl he
    | succ i ih =>
      simp only [forkTo]
      split
      · exact ih
      · intro e he
        rcases List.mem_cons.1 he with rfl | he
        · exact .inr rfl
        · exact ih e he
  exact fun e he => (this 8 e he).elim .inl (fun h => .inr (.inr ⟨hd, h⟩))
theorem DoneR.ofOpen {L L' : List Ent} {d pid fd K T r er : Int} (h : OpenR L pid K T L' r er) : DoneR L d pid fd L' := by
  cases h <;> first | exact .same | exact .cons rfl
theorem DoneR.ofDup {L L' : List Ent} {d pid fd r er : Int} (h : DupR L pid fd L' r er) : DoneR L d pid fd L' := by
  cases h <;> first | exact .same | exact .cons rfl
theorem DoneR.ofClose {L L' : List Ent} {d pid fd K T er : Int} {g : Bool} (h : CloseR L pid fd L' K T g er) : DoneR L d pid fd L' := by
  cases h <;> first | exact .same | exact .del
theorem DoneR.ofFork {L L' : List Ent} {d pid fd er : Int} (hd : d % 8 = 6) (h : ForkR L pid fd L' er) : DoneR L d pid fd L' := by
  cases h <;> first | exact .same | exact .fork hd (by assumption)

theorem wrap8 (d : Int) : (IntKind.u64.wrap d).tmod 8 = d % 8 := by
  have : IntKind.u64.wrap d = d % 2 ^ 64 := rfl
  rw [this, Int.tmod_eq_emod_of_nonneg (by omega)]
  omega

set_option maxHeartbeats 3200000 in
set_option maxRecDepth 8192 in
theorem done_any {w : World} {f m : Nat} {L : List Ent} {al : List (Int × Value)} (hrep : Rep w f m L al) (d pid fd K T : Int) (hcl : L.length < 1000) :
    Calls Try.prog 18 #[.pointer (some ⟨f, 0, none⟩), .agg #[.int .i64 d, .int .i64 pid, .int .i64 fd, .int .i64 K, .int .i64 T]] w fun e w' =>
      e = .returned (.tuple #[]) ∧ ∃ L' al', DoneR L d pid fd L' ∧ Rep w' f m L' al' ∧ Same (Own w m) w w' := by
  have hR1 := hrep.same0 (same_alloc (.cells #[.int .i64 d, .int .i64 pid, .int .i64 fd, .int .i64 K, .int .i64 T] 42))
  have hs1 : Same (Own w m) w _ := own_of (same_alloc (.cells #[.int .i64 d, .int .i64 pid, .int .i64 fd, .int .i64 K, .int .i64 T] 42))
  have hcn := cnt_le L
  have hw8 := wrap8 d
  have hd : d % 8 = 0 ∨ d % 8 = 1 ∨ d % 8 = 2 ∨ d % 8 = 3 ∨ d % 8 = 4 ∨ d % 8 = 5 ∨ d % 8 = 6 ∨ d % 8 = 7 := by omega
  have HCN := Lib.hid hcn
  have HD := Lib.hid hd
  clear hcn hd
  go_enter Try.func18, Try.ntmps18
  rcases HD.out with h | h | h | h | h | h | h | h
  all_goals
    rw [h] at hw8
    have HDD := Lib.hid h
    clear h
  · go_wp2_with fail
    refine (open_any hR1 pid K T (by have := HCN.out; omega)).mono ?_
    rintro e w2 ⟨L', r, er, rfl, hO, al', hR', hs'⟩
    go_wp2
    go_end0
    exact ⟨rfl, L', al', .ofOpen hO, hR', own_trans hs1 hs'⟩
  · go_wp2_with fail
    refine (open_any hR1 pid K T (by have := HCN.out; omega)).mono ?_
    rintro e w2 ⟨L', r, er, rfl, hO, al', hR', hs'⟩
    go_wp2
    go_end0
    exact ⟨rfl, L', al', .ofOpen hO, hR', own_trans hs1 hs'⟩
  · go_wp2_with fail
    refine (open_any hR1 pid K T (by have := HCN.out; omega)).mono ?_
    rintro e w2 ⟨L', r, er, rfl, hO, al', hR', hs'⟩
    go_wp2
    go_end0
    exact ⟨rfl, L', al', .ofOpen hO, hR', own_trans hs1 hs'⟩
  · go_wp2_with fail
    refine (dup_any hR1 pid fd (by omega)).mono ?_
    rintro e w2 ⟨L', r, er, rfl, hO, al', hR', hs'⟩
    go_wp2
    go_end0
    exact ⟨rfl, L', al', .ofDup hO, hR', own_trans hs1 hs'⟩
  · go_wp2_with fail
    refine (close_any hR1 pid fd (by omega)).mono ?_
    rintro e w2 ⟨L', K', T', g, er, rfl, hO, hR', hs'⟩
    go_wp2
    go_end0
    exact ⟨rfl, L', al, .ofClose hO, hR', own_trans hs1 hs'⟩
  · go_wp2
    go_end0
    exact ⟨rfl, L, al, .same, hR1, hs1⟩
  · go_wp2_with fail
    refine (fork_any hR1 pid fd (by omega)).mono ?_
    rintro e w2 ⟨L', er, rfl, hO, al', hR', hs'⟩
    go_wp2
    go_end0
    exact ⟨rfl, L', al', .ofFork HDD.out hO, hR', own_trans hs1 hs'⟩
  · rcases Int.lt_or_le pid 1 with hp | hp
    · go_wp2_with fail
      refine (drop_bad hR1 pid hp).mono ?_
      rintro e w2 ⟨v, rfl, ho, al', hR', hs'⟩
      go_wp2
      go_end0
      exact ⟨rfl, L, al', .same, hR', own_trans hs1 hs'⟩
    · go_wp2_with fail
      refine (drop_ok hR1 pid hp (by omega)).mono ?_
      rintro e w2 ⟨v, rfl, ho, al', hR', hs'⟩
      go_wp2
      go_end0
      exact ⟨rfl, _, al', .drop 8, hR', own_trans hs1 hs'⟩
end Go.Proofs.Ytcllofffbmbmlaa
