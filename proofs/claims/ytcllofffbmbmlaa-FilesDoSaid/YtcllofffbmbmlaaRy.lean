/- files: drop on both, in whatever order. Conditions: their form. -/
import Derived.Test.YtcllofffbmbmlaaRw
namespace Go.Proofs.Ytcllofffbmbmlaa
open Go.RowKit Go.Shelf
attribute [local go_sem] Oper.semAt_some

/-- Dropped or not yet, the one and the other one; what was handed back. -/
def DrS (B s f m r b : Nat) (p q K T : Int) (L dL : List Ent) (R dR : List Fr) (out : List (Int × Int)) (last : Nat) (w0 : World) (q1 q2 : Option Value) (w : World) : Prop :=
  (∀ v, q1 = some v → w.ownsRow 0 23 2 v out.length (flat out)) ∧ (∀ v, q2 = some v → w.ownsRow 0 23 2 v out.length (flat out)) ∧ Bx B s f m r b p q K T (if q1.isSome then dL else L) (if q2.isSome then dR else R) last w0 w
theorem DrS.c {B s f m r b : Nat} {p q K T : Int} {L dL : List Ent} {R dR : List Fr} {out : List (Int × Int)} {last : Nat} {w0 w : World} {q1 q2 : Option Value} (h : DrS B s f m r b p q K T L dL R dR out last w0 q1 q2 w) : w.cell? ⟨b, 1, none⟩ = some (.int .i64 p) := h.2.2.c1
theorem row_own {w w' : World} {f m : Nat} {L : List Ent} {al : List (Int × Value)} {v : Value} {out : List (Int × Int)} (h0 : Rep w f m L al) (h : w.ownsRow 0 23 2 v out.length (flat out)) (hs : Same (Own w m) w w') : w'.ownsRow 0 23 2 v out.length (flat out) :=
  ownsRow_same h hs (fun g hg => by
    obtain ⟨_, _, k, hk⟩ := ownsRow_shape h hg
    exact not_own (fun e => by rw [e, h0.shm] at hk; cases hk) hk (by decide))
theorem row_rown {w w' : World} {s : Nat} {v : Value} {out : List (Int × Int)} (h : w.ownsRow 0 23 2 v out.length (flat out)) (hs : Same (ROwn s w) w w') : w'.ownsRow 0 23 2 v out.length (flat out) :=
  ownsRow_same h hs (fun g hg => by
    obtain ⟨_, _, k, hk⟩ := ownsRow_shape h hg
    exact not_rown hk (by decide))
theorem drop_step {B s f m r b : Nat} {p q K T : Int} {L dL : List Ent} {R dR : List Fr} {out : List (Int × Int)} {last : Nat} {w0 w : World} {q2 : Option Value}
    (hd : ∀ (w : World) (al : List (Int × Value)), Rep w f m L al → Calls Try.prog 22 #[.pointer (some ⟨f, 0, none⟩), .int .i64 p] w (DropPost w f m L dL out)) (h : DrS B s f m r b p q K T L dL R dR out last w0 none q2 w) :
    Calls Try.prog 22 #[.pointer (some ⟨f, 0, none⟩), .int .i64 p] w fun e w' => ∃ v, e = .returned v ∧ DrS B s f m r b p q K T L dL R dR out last w0 (some v) q2 w' := by
  obtain ⟨h1, h2, hB⟩ := h
  obtain ⟨al, h0⟩ := hB.prog
  refine (hd w al h0).mono ?_
  rintro e w' ⟨v, rfl, hrow, al2, hr2, hs2⟩
  exact ⟨v, rfl, (fun _ e => by cases e; exact ownsRow_base hrow (Nat.zero_le _)), (fun v2 e => row_own h0 (h2 v2 e) hs2), hB.one hr2 hs2⟩
theorem rdrop_step {B s f m r b : Nat} {p q K T : Int} {L dL : List Ent} {R : List Fr} {last : Nat} {w0 w : World} {q1 : Option Value} {out : List (Int × Int)} (hk : FKey R) (ho : foutTo R p 8 = out)
    (h : DrS B s f m r b p q K T L dL R (fdropTo R p 8) out last w0 q1 none w) :
    Calls Try.prog 33 #[.pointer (some ⟨r, 0, none⟩), .int .i64 p] w fun e w' => ∃ v, e = .returned v ∧ DrS B s f m r b p q K T L dL R (fdropTo R p 8) out last w0 q1 (some v) w' := by
  subst ho
  obtain ⟨h1, h2, hB⟩ := h
  obtain ⟨ao, cap, hR⟩ := hB.ref
  refine (rdrop_any hR hk p).mono ?_
  rintro e w' ⟨v, rfl, hrow, hst⟩
  have hb2 := hB.two hst
  obtain ⟨ao2, cap2, hR2, hs2⟩ := hst
  exact ⟨v, rfl, (fun v2 e => row_rown (h1 v2 e) hs2), (fun _ e => by cases e; exact ownsRow_base hrow (Nat.zero_le _)), hb2⟩
theorem same_step {B s f m r b : Nat} {p q K T : Int} {L dL : List Ent} {R dR : List Fr} {last : Nat} {w0 w : World} {v1 v2 : Value} {out : List (Int × Int)} (ho : out.length ≤ 8)
    (h : DrS B s f m r b p q K T L dL R dR out last w0 (some v1) (some v2) w) :
    Calls Try.prog 32 #[v1, v2] w fun e w' => e = .returned (.bool true) ∧ Bx B s f m r b p q K T dL dR last w0 w' := by
  obtain ⟨h1, h2, hB⟩ := h
  refine (same_true (h1 v1 rfl) (h2 v2 rfl) (by omega)).mono ?_
  rintro e w' ⟨rfl, hs⟩
  exact ⟨rfl, hB.zero hs⟩
set_option maxHeartbeats 12800000 in
set_option maxRecDepth 16384 in
theorem did_drop {B s f m r c : Nat} {w : World} {L : List Ent} {R : List Fr} {last : Nat} {al : List (Int × Value)} {ao : Option Addr} {cap : Nat} (h : Rep w f m L al) (hR : RAt s w r ao cap R last) (he : Eqv L R last c) (hc : c < 100) (hm : B ≤ m) (hs : B ≤ s) (d p q K T : Int) (hd : d % 8 = 7) :
    Calls Try.prog 19 #[.pointer (some ⟨f, 0, none⟩), .pointer (some ⟨r, 0, none⟩), .agg #[.int .i64 d, .int .i64 p, .int .i64 q, .int .i64 K, .int .i64 T]] w (DidQ B s f m r c w) := by
  have hB := Bx.start (d := d) (p := p) (q := q) (K := K) (T := T) h hR hm hs
  obtain ⟨dL, out, hdp, hev, hout⟩ : ∃ dL out, (∀ (w : World) (al : List (Int × Value)), Rep w f m L al → Calls Try.prog 22 #[.pointer (some ⟨f, 0, none⟩), .int .i64 p] w (DropPost w f m L dL out)) ∧ Eqv dL (fdropTo R p 8) last (c + 1) ∧ foutTo R p 8 = out := by
    by_cases hp : p < 1
    · obtain ⟨e1, e2⟩ := drop_bad_rel (R := R) hp 8
      refine ⟨L, [], fun w al h => drop_bad h p hp, ?_, e2⟩
      rw [e1]; exact he.up
    · obtain ⟨e1, e2⟩ := drop_eq he (p := p) (by omega)
      exact ⟨dropTo L p 8, outTo L p 8, fun w al h => drop_ok h p (by omega) (by have := he.len; omega), e2, e1⟩
  have hol : out.length ≤ 8 := by rw [← hout]; exact foutTo_le R p 8
  have D0 := Lib.hid (show DrS B s f m r w.heap.size p q K T L dL R (fdropTo R p 8) out last w none none (w.alloc (.cells #[.int .i64 d, .int .i64 p, .int .i64 q, .int .i64 K, .int .i64 T] 42)).drew from
    ⟨(fun _ e => by cases e), (fun _ e => by cases e), hB.zero (Same.refl _ _).drew⟩)
  have HF := Lib.hid (And.intro hdp (And.intro he.fkey (And.intro hout hol)))
  have HEV := Lib.hid hev
  have hw8 := wrap8 d
  rw [hd] at hw8
  clear h hR he hm hs hd hB hdp hev hout hol
  go_enter Try.func19, Try.ntmps19
  go_wp2_with fail
  have hD := D0.out
  have hc1 := hD.c
  go_region_with (first
    | (go_at_call 22; refine (drop_step HF.out.1 (by assumption)).mono ?_; rintro e' w' ⟨v1, rfl, hW1⟩; have hc1 := hW1.c)
    | (go_at_call 33; refine (rdrop_step HF.out.2.1 HF.out.2.2.1 (by assumption)).mono ?_; rintro e' w' ⟨v2, rfl, hW2⟩; have hc1 := hW2.c)
    | (go_at_call 32; refine (same_step HF.out.2.2.2 (by assumption)).mono ?_; rintro e' w' ⟨rfl, hW3⟩))
  all_goals go_wp2
  all_goals go_ret
  all_goals exact Bx.done (by assumption) HEV.out (Same.refl _ _)
end Go.Proofs.Ytcllofffbmbmlaa
