/- files: both beside each other; open, dup, close, get on both. Conditions: their form. -/
import Derived.Test.YtcllofffbmbmlaaRt
import Derived.Test.YtcllofffbmbmlaaN
import Derived.Deep.RegionWith
namespace Go.Proofs.Ytcllofffbmbmlaa
open Go.RowKit Go.Shelf
attribute [local go_sem] Oper.semAt_some

theorem Rep.shm {w : World} {f m : Nat} {L : List Ent} {al : List (Int × Value)} (h : Rep w f m L al) : w.shape? m = none := by
  obtain ⟨es, clk, h1, -⟩ := h.hm
  exact shape_none h1 rfl
theorem own_or_rown {w : World} {f m s b : Nat} {L : List Ent} {al : List (Int × Value)} (h : Rep w f m L al) (h1 : Own w m b) (h2 : ROwn s w b) : False := by
  obtain ⟨-, t, n, hs, ht⟩ := h2
  obtain ⟨-, rfl | ⟨t', n', hs', ht'⟩⟩ := h1
  · rw [h.shm] at hs; cases hs
  · rw [hs] at hs'
    simp only [Option.some.injEq, Prod.mk.injEq] at hs'
    obtain ⟨rfl, -⟩ := hs'
    rcases ht with rfl | rfl <;> exact absurd ht' (by decide)
/-- Both, and an act's cells. -/
structure Bx (B s f m r b : Nat) (p q K T : Int) (L : List Ent) (R : List Fr) (last : Nat) (w0 w : World) : Prop where
  prog : ∃ al, Rep w f m L al
  ref : ∃ ao cap, RAt s w r ao cap R last
  c1 : w.cell? ⟨b, 1, none⟩ = some (.int .i64 p)
  c2 : w.cell? ⟨b, 2, none⟩ = some (.int .i64 q)
  c3 : w.cell? ⟨b, 3, none⟩ = some (.int .i64 K)
  c4 : w.cell? ⟨b, 4, none⟩ = some (.int .i64 T)
  bs : w.shape? b = some (42, 5)
  same : Same (B ≤ ·) w0 w
  hm : B ≤ m
  hs : B ≤ s
theorem Bx.one {B s f m r b : Nat} {p q K T : Int} {L L' : List Ent} {R : List Fr} {last : Nat} {w0 w w' : World} {al' : List (Int × Value)} (h : Bx B s f m r b p q K T L R last w0 w) (hr : Rep w' f m L' al') (hs : Same (Own w m) w w') : Bx B s f m r b p q K T L' R last w0 w' := by
  obtain ⟨al, h0⟩ := h.prog
  obtain ⟨ao, cap, hR⟩ := h.ref
  have hb : ¬ Own w m b := not_own (fun e => by have := h.bs; rw [e, h0.shm] at this; cases this) h.bs (by decide)
  exact ⟨⟨_, hr⟩, ⟨ao, cap, hR.same hs (fun k _ h1 h2 => own_or_rown h0 h1 h2)⟩, hs.cell h.c1 hb, hs.cell h.c2 hb, hs.cell h.c3 hb, hs.cell h.c4 hb, (hs.shp b (World.block_lt_of_cell? _ _ h.c1)).trans h.bs,
    h.same.trans (hs.mono (fun k _ e => Nat.le_trans h.hm e.1)), h.hm, h.hs⟩
theorem Bx.two {B s f m r b : Nat} {p q K T : Int} {L : List Ent} {R R' : List Fr} {last last' : Nat} {w0 w w' : World} (h : Bx B s f m r b p q K T L R last w0 w) (hr : RStep s w r R' last' w') : Bx B s f m r b p q K T L R' last' w0 w' := by
  obtain ⟨al, h0⟩ := h.prog
  obtain ⟨ao, cap, hR, hs⟩ := hr
  have hb : ¬ ROwn s w b := not_rown h.bs (by decide)
  exact ⟨⟨al, h0.same hs (fun k _ h1 h2 => own_or_rown h0 h2 h1)⟩, ⟨ao, cap, hR⟩, hs.cell h.c1 hb, hs.cell h.c2 hb, hs.cell h.c3 hb, hs.cell h.c4 hb, (hs.shp b (World.block_lt_of_cell? _ _ h.c1)).trans h.bs,
    h.same.trans (hs.mono (fun k _ e => Nat.le_trans h.hs e.1)), h.hm, h.hs⟩
theorem Bx.zero {B s f m r b : Nat} {p q K T : Int} {L : List Ent} {R : List Fr} {last : Nat} {w0 w w' : World} (h : Bx B s f m r b p q K T L R last w0 w) (hs : Same (fun _ => False) w w') : Bx B s f m r b p q K T L R last w0 w' := by
  obtain ⟨al, h0⟩ := h.prog
  exact h.one (h0.same0 hs) (own_of hs)
/-- What 'did' leaves. -/
def DidQ (B s f m r b : Nat) (w : World) (e : Ending) (w' : World) : Prop :=
  ∃ L' R' last', e = .returned (.bool true) ∧ (∃ al', Rep w' f m L' al') ∧ (∃ ao cap, RAt s w' r ao cap R' last') ∧ Eqv L' R' last' (b + 1) ∧ Same (B ≤ ·) w w'
theorem Bx.done {B s f m r b c : Nat} {p q K T : Int} {L : List Ent} {R : List Fr} {last : Nat} {w0 w w' : World} (h : Bx B s f m r b p q K T L R last w0 w) (he : Eqv L R last (c + 1)) (hs : Same (fun _ => False) w w') : DidQ B s f m r c w0 (.returned (.bool true)) w' := by
  have h' := h.zero hs
  exact ⟨L, R, last, rfl, h'.prog, h'.ref, he, h'.same⟩
theorem Bx.start {B s f m r : Nat} {d p q K T : Int} {L : List Ent} {R : List Fr} {last : Nat} {w : World} {al : List (Int × Value)} {ao : Option Addr} {cap : Nat} (h : Rep w f m L al) (hR : RAt s w r ao cap R last) (hm : B ≤ m) (hs : B ≤ s) :
    Bx B s f m r w.heap.size p q K T L R last w (w.alloc (.cells #[.int .i64 d, .int .i64 p, .int .i64 q, .int .i64 K, .int .i64 T] 42)) :=
  ⟨⟨al, h.same0 (same_alloc _)⟩, ⟨ao, cap, hR.same0 (same_alloc _)⟩, by simp, by simp, by simp, by simp, by rw [shape_alloc, if_pos rfl]; rfl, (same_alloc _).mono (fun _ _ h => h.elim), hm, hs⟩
set_option maxHeartbeats 3200000 in
set_option maxRecDepth 16384 in
theorem did_open {B s f m r c : Nat} {w : World} {L : List Ent} {R : List Fr} {last : Nat} {al : List (Int × Value)} {ao : Option Addr} {cap : Nat} (h : Rep w f m L al) (hR : RAt s w r ao cap R last) (he : Eqv L R last c) (hc : c < 100) (hm : B ≤ m) (hs : B ≤ s) (d p q K T : Int) (hd : d % 8 = 0 ∨ d % 8 = 1 ∨ d % 8 = 2) :
    Calls Try.prog 19 #[.pointer (some ⟨f, 0, none⟩), .pointer (some ⟨r, 0, none⟩), .agg #[.int .i64 d, .int .i64 p, .int .i64 q, .int .i64 K, .int .i64 T]] w (DidQ B s f m r c w) := by
  have HB := Lib.hid (Bx.start (d := d) (p := p) (q := q) (K := K) (T := T) h hR hm hs)
  have HE := Lib.hid he
  have hw8 := wrap8 d
  clear h hR he hm hs
  rcases hd with hd | hd | hd
  all_goals
    rw [hd] at hw8
    clear hd
    go_enter Try.func19, Try.ntmps19
    obtain ⟨al0, h0⟩ := HB.out.prog
    have H0 := Lib.hid h0
    clear h0
    go_wp2_with fail
    refine (open_any H0.out p K T (by have := HE.out.c32; omega)).mono ?_
    rintro e w1 ⟨L', r1, e1, rfl, ho, al1, hr1, hs1⟩
    have HB1 := Lib.hid (HB.out.one hr1 hs1)
    have HO := Lib.hid ho
    have d1 := HB1.out.c1
    have d3 := HB1.out.c3
    have d4 := HB1.out.c4
    clear ho hr1 hs1
    go_wp2_with fail
    obtain ⟨ao1, cap1, hR1⟩ := HB1.out.ref
    have HR1 := Lib.hid hR1
    clear hR1
    refine (ropen_any HR1.out (by have := HE.out.rlen; omega) (by have := HE.out.lst; omega) p K T).mono ?_
    rintro e w2 ⟨R', last', k2, e2, rfl, hof, hst⟩
    have HB2 := Lib.hid (HB1.out.two hst)
    obtain ⟨rfl, rfl, he2⟩ := open_eq HE.out HO.out hof
    have HE2 := Lib.hid he2
    clear hof hst he2 d1 d3 d4
    go_wp2
    go_ret
    exact HB2.out.done HE2.out (Same.refl _ _)
end Go.Proofs.Ytcllofffbmbmlaa
