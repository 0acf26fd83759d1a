/- files: fork and drop on both, in whatever order. Conditions: their form. -/
import Derived.Test.YtcllofffbmbmlaaRw
import Derived.Test.YtcllofffbmbmlaaTw
namespace Go.Proofs.Ytcllofffbmbmlaa
open Go.RowKit Go.Shelf
attribute [local go_sem] Oper.semAt_some
attribute [local go_sem] PUpon

/-- Forked or not yet, the one and the other one. -/
def FkS (B s f m r b : Nat) (p q K T : Int) (L : List Ent) (R : List Fr) (last : Nat) (w0 : World) (q1 q2 : Option Int) (w : World) : Prop :=
  ∃ L' R', (∀ er, q1 = some er → ForkR L p q L' er) ∧ (q1 = none → L' = L) ∧ (∀ er, q2 = some er → ForkF R p q R' er) ∧ (q2 = none → R' = R) ∧ Bx B s f m r b p q K T L' R' last w0 w
theorem FkS.c {B s f m r b : Nat} {p q K T : Int} {L : List Ent} {R : List Fr} {last : Nat} {w0 w : World} {q1 q2 : Option Int} (h : FkS B s f m r b p q K T L R last w0 q1 q2 w) : w.cell? ⟨b, 1, none⟩ = some (.int .i64 p) ∧ w.cell? ⟨b, 2, none⟩ = some (.int .i64 q) := by
  obtain ⟨_, _, _, _, _, _, h⟩ := h
  exact ⟨h.c1, h.c2⟩
theorem fork_step {B s f m r b c : Nat} {p q K T : Int} {L : List Ent} {R : List Fr} {last : Nat} {w0 w : World} {q2 : Option Int} (he : Eqv L R last c) (hc : c < 100) (h : FkS B s f m r b p q K T L R last w0 none q2 w) :
    Calls Try.prog 16 #[.pointer (some ⟨f, 0, none⟩), .int .i64 p, .int .i64 q] w fun e w' => ∃ er, e = .returned (.int .i64 er) ∧ FkS B s f m r b p q K T L R last w0 (some er) q2 w' := by
  obtain ⟨L', R', h1, h2, h3, h4, hB⟩ := h
  obtain rfl := h2 rfl
  obtain ⟨al, h0⟩ := hB.prog
  refine (fork_any h0 p q (by have := he.len; omega)).mono ?_
  rintro e w' ⟨L2, er, rfl, hf, al2, hr2, hs2⟩
  exact ⟨er, rfl, L2, R', (fun _ e => by cases e; exact hf), (fun e => by cases e), h3, h4, hB.one hr2 hs2⟩
theorem rfork_step {B s f m r b c : Nat} {p q K T : Int} {L : List Ent} {R : List Fr} {last : Nat} {w0 w : World} {q1 : Option Int} (he : Eqv L R last c) (hc : c < 100) (h : FkS B s f m r b p q K T L R last w0 q1 none w) :
    Calls Try.prog 31 #[.pointer (some ⟨r, 0, none⟩), .int .i64 p, .int .i64 q] w fun e w' => ∃ er, e = .returned (.int .i64 er) ∧ FkS B s f m r b p q K T L R last w0 q1 (some er) w' := by
  obtain ⟨L', R', h1, h2, h3, h4, hB⟩ := h
  obtain rfl := h4 rfl
  obtain ⟨ao, cap, hR⟩ := hB.ref
  refine (rfork_any hR p q (by have := kids_len he p q; omega)).mono ?_
  rintro e w' ⟨R2, er, rfl, hf, hst⟩
  exact ⟨er, rfl, L', R2, h1, h2, (fun _ e => by cases e; exact hf), (fun e => by cases e), hB.two hst⟩
open Classical in
/-- What a fork answers. -/
noncomputable def forkE (L : List Ent) (p q : Int) : Int := if (p < 1 ∨ q < 1) ∨ ∃ k : Nat, k < 8 ∧ ent L q k ≠ none then 2 else 0
theorem forkE_of {L L' : List Ent} {p q er : Int} (h : ForkR L p q L' er) : er = forkE L p q := by
  unfold forkE
  cases h with
  | arg h => rw [if_pos (.inl h)]
  | some k _ _ hk h => rw [if_pos (.inr ⟨k, hk, h⟩)]
  | ok h1 h2 h3 =>
    rw [if_neg]
    rintro (h | ⟨k, _, h⟩)
    · omega
    · exact h (h3 k)
theorem forkF_of {L : List Ent} {R R' : List Fr} {last c : Nat} {p q er : Int} (he : Eqv L R last c) (h : ForkF R p q R' er) : er = forkE L p q := by
  obtain ⟨φ, hr⟩ := he.rel
  unfold forkE
  cases h with
  | arg h => rw [if_pos (.inl h)]
  | some x h1 h2 hx hq =>
    obtain ⟨e, hm, rfl⟩ := List.mem_map.1 (hr.perm.mem_iff.1 hx)
    have h5 := ent_mem2 hr.key hm
    rw [show e.pid = q from hq] at h5
    have h6 : ∃ k : Nat, k < 8 ∧ ent L q k ≠ none := ⟨e.fd, he.rng e hm, by rw [h5]; simp⟩
    rw [if_pos (.inr h6)]
  | ok h1 h2 h3 =>
    rw [if_neg]
    rintro (h | ⟨k, _, h⟩)
    · omega
    · cases hx : ent L q k with
      | none => exact h hx
      | some e =>
        obtain ⟨hm, hp, _⟩ := ent_some hx
        exact h3 (cv φ e) (hr.perm.mem_iff.2 (List.mem_map_of_mem hm)) hp
def FkD (B s f m r b : Nat) (p q K T : Int) (L : List Ent) (R : List Fr) (last : Nat) (w0 : World) (x y : Bool) (w : World) : Prop :=
  FkS B s f m r b p q K T L R last w0 (if x then some (forkE L p q) else none) (if y then some (forkE L p q) else none) w
theorem FkD.c {B s f m r b : Nat} {p q K T : Int} {L : List Ent} {R : List Fr} {last : Nat} {w0 w : World} {x y : Bool} (h : FkD B s f m r b p q K T L R last w0 x y w) : w.cell? ⟨b, 1, none⟩ = some (.int .i64 p) ∧ w.cell? ⟨b, 2, none⟩ = some (.int .i64 q) := FkS.c h
theorem fork_stepD {B s f m r b c : Nat} {p q K T : Int} {L : List Ent} {R : List Fr} {last : Nat} {w0 w : World} {y : Bool} (he : Eqv L R last c) (hc : c < 100) (h : FkD B s f m r b p q K T L R last w0 false y w) :
    Calls Try.prog 16 #[.pointer (some ⟨f, 0, none⟩), .int .i64 p, .int .i64 q] w fun e w' => e = .returned (.int .i64 (forkE L p q)) ∧ FkD B s f m r b p q K T L R last w0 true y w' := by
  refine (fork_step he hc h).mono ?_
  rintro e w' ⟨er, rfl, hF⟩
  obtain rfl : er = forkE L p q := by
    obtain ⟨L', R', h1, _⟩ := hF
    exact forkE_of (h1 _ rfl)
  exact ⟨rfl, hF⟩
theorem rfork_stepD {B s f m r b c : Nat} {p q K T : Int} {L : List Ent} {R : List Fr} {last : Nat} {w0 w : World} {x : Bool} (he : Eqv L R last c) (hc : c < 100) (h : FkD B s f m r b p q K T L R last w0 x false w) :
    Calls Try.prog 31 #[.pointer (some ⟨r, 0, none⟩), .int .i64 p, .int .i64 q] w fun e w' => e = .returned (.int .i64 (forkE L p q)) ∧ FkD B s f m r b p q K T L R last w0 x true w' := by
  refine (rfork_step he hc h).mono ?_
  rintro e w' ⟨er, rfl, hF⟩
  obtain rfl : er = forkE L p q := by
    obtain ⟨L', R', _, _, h1, _⟩ := hF
    exact forkF_of he (h1 _ rfl)
  exact ⟨rfl, hF⟩
set_option maxHeartbeats 12800000 in
set_option maxRecDepth 16384 in
theorem did_fork {B s f m r c : Nat} {w : World} {L : List Ent} {R : List Fr} {last : Nat} {al : List (Int × Value)} {ao : Option Addr} {cap : Nat} (h : Rep w f m L al) (hR : RAt s w r ao cap R last) (he : Eqv L R last c) (hc : c < 100) (hm : B ≤ m) (hs : B ≤ s) (d p q K T : Int) (hd : d % 8 = 6) :
    Calls Try.prog 19 #[.pointer (some ⟨f, 0, none⟩), .pointer (some ⟨r, 0, none⟩), .agg #[.int .i64 d, .int .i64 p, .int .i64 q, .int .i64 K, .int .i64 T]] w (DidQ B s f m r c w) := by
  have hB := Bx.start (d := d) (p := p) (q := q) (K := K) (T := T) h hR hm hs
  have D0 := Lib.hid (show FkD B s f m r w.heap.size p q K T L R last w false false (w.alloc (.cells #[.int .i64 d, .int .i64 p, .int .i64 q, .int .i64 K, .int .i64 T] 42)).drew from
    ⟨L, R, (fun _ e => by cases e), (fun _ => rfl), (fun _ e => by cases e), (fun _ => rfl), hB.zero (Same.refl _ _).drew⟩)
  have HE := Lib.hid he
  have HC := Lib.hid hc
  have HB := Lib.hid (show ∀ (w6 : World), FkD B s f m r w.heap.size p q K T L R last w true true w6 → DidQ B s f m r c w (.returned (.bool true)) w6 from fun w6 hF => by
    obtain ⟨L', R', h1, _, h3, _, hB⟩ := hF
    obtain ⟨al2, h2⟩ := hB.prog
    obtain ⟨-, hev⟩ := fork_eq he h2.key (h1 _ rfl) (h3 _ rfl)
    exact hB.done hev (Same.refl _ _))
  obtain ⟨E, hE⟩ : ∃ E, E = forkE L p q := ⟨_, rfl⟩
  have FK1 := Lib.hid (fun (w1 : World) (y : Bool) (h : FkD B s f m r w.heap.size p q K T L R last w false y w1) => fork_stepD he hc h)
  have FK2 := Lib.hid (fun (w1 : World) (x : Bool) (h : FkD B s f m r w.heap.size p q K T L R last w x false w1) => rfork_stepD he hc h)
  rw [← hE] at FK1 FK2
  have hw8 := wrap8 d
  rw [hd] at hw8
  clear h hR he hm hs hd hB hc hE
  go_enter Try.func19, Try.ntmps19
  go_wp2_with fail
  refine wp_region_two (FkD B s f m r w.heap.size p q K T L R last w) 5 11 (by kernel_rfl) (by kernel_rfl) (by decide) (by decide) (by decide) (by decide) (by decide) D0.out ?_
  iterate 5 (
    refine wpTwo_stepK (fun K hK => ⟨rfl, ?_, ?_, ?_⟩)
    rotate_left
    · refine twoAt_other rfl rfl (fun b b' w' hD => ?_)
      obtain ⟨h1, h2⟩ := hD.c
      go_simp
      exact rfl
    go_simp
    refine hK _ ?_
    clear hK K)
  refine wpTwo_stepK (fun K hK => ⟨rfl, ?_, ?_, ?_⟩)
  rotate_left
  · refine twoAt_one (fun b w' hD => ?_)
    go_simp
    exact FK1.out _ _ hD
  go_simp
  refine hK _ ?_
  clear hK K
  iterate 5 (
    refine wpTwo_stepK (fun K hK => ⟨rfl, ?_, ?_, ?_⟩)
    rotate_left
    · refine twoAt_other rfl rfl (fun b b' w' hD => ?_)
      obtain ⟨h1, h2⟩ := hD.c
      go_simp
      exact rfl
    go_simp
    refine hK _ ?_
    clear hK K)
  refine wpTwo_stepK (fun K hK => ⟨rfl, ?_, ?_, ?_⟩)
  rotate_left
  · refine twoAt_two rfl (fun b w' hD => ?_)
    go_simp
    exact FK2.out _ _ hD
  go_simp
  refine hK _ ?_
  clear hK K
  iterate 2 (
    refine wpTwo_stepK (fun K hK => ⟨rfl, ?_, ?_, ?_⟩)
    rotate_left
    · refine twoAt_other rfl rfl (fun b b' w' hD => ?_)
      obtain ⟨h1, h2⟩ := hD.c
      go_simp
      exact rfl
    go_simp
    refine hK _ ?_
    clear hK K)
  refine fun w6 hD => ?_
  have HQ := Lib.hid (HB.out w6 hD)
  clear hD
  go_wp2
  go_ret
  exact HQ.out
end Go.Proofs.Ytcllofffbmbmlaa
