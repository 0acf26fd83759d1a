/- files: dup, close, get on both. Conditions: their form. -/
import Derived.Test.YtcllofffbmbmlaaRv
namespace Go.Proofs.Ytcllofffbmbmlaa
open Go.RowKit Go.Shelf
attribute [local go_sem] Oper.semAt_some

set_option maxHeartbeats 3200000 in
set_option maxRecDepth 16384 in
theorem did_dup {B s f m r c : Nat} {w : World} {L : List Ent} {R : List Fr} {last : Nat} {al : List (Int × Value)} {ao : Option Addr} {cap : Nat} (h : Rep w f m L al) (hR : RAt s w r ao cap R last) (he : Eqv L R last c) (hc : c < 100) (hm : B ≤ m) (hs : B ≤ s) (d p q K T : Int) (hd : d % 8 = 3) :
    Calls Try.prog 19 #[.pointer (some ⟨f, 0, none⟩), .pointer (some ⟨r, 0, none⟩), .agg #[.int .i64 d, .int .i64 p, .int .i64 q, .int .i64 K, .int .i64 T]] w (DidQ B s f m r c w) := by
  have HB := Lib.hid (Bx.start (d := d) (p := p) (q := q) (K := K) (T := T) h hR hm hs)
  have HE := Lib.hid he
  have hw8 := wrap8 d
  clear h hR he hm hs
  rw [hd] at hw8
  clear hd
  go_enter Try.func19, Try.ntmps19
  obtain ⟨al0, h0⟩ := HB.out.prog
  have H0 := Lib.hid h0
  clear h0
  go_wp2_with fail
  refine (dup_any H0.out p q (by have := HE.out.len; omega)).mono ?_
  rintro e w1 ⟨L', r1, e1, rfl, ho, al1, hr1, hs1⟩
  have HB1 := Lib.hid (HB.out.one hr1 hs1)
  have HO := Lib.hid ho
  have d1 := HB1.out.c1
  have d2 := HB1.out.c2
  clear ho hr1 hs1
  go_wp2_with fail
  obtain ⟨ao1, cap1, hR1⟩ := HB1.out.ref
  have HR1 := Lib.hid hR1
  clear hR1
  refine (rdup_any HR1.out (by have := HE.out.rlen; omega) p q).mono ?_
  rintro e w2 ⟨R', k2, e2, rfl, hof, hst⟩
  have HB2 := Lib.hid (HB1.out.two hst)
  obtain ⟨rfl, rfl, he2⟩ := dup_eq HE.out HO.out hof
  have HE2 := Lib.hid he2
  clear hof hst he2 d1 d2
  go_wp2
  go_ret
  exact HB2.out.done HE2.out (Same.refl _ _)
set_option maxHeartbeats 3200000 in
set_option maxRecDepth 16384 in
theorem did_close {B s f m r c : Nat} {w : World} {L : List Ent} {R : List Fr} {last : Nat} {al : List (Int × Value)} {ao : Option Addr} {cap : Nat} (h : Rep w f m L al) (hR : RAt s w r ao cap R last) (he : Eqv L R last c) (hc : c < 100) (hm : B ≤ m) (hs : B ≤ s) (d p q K T : Int) (hd : d % 8 = 4) :
    Calls Try.prog 19 #[.pointer (some ⟨f, 0, none⟩), .pointer (some ⟨r, 0, none⟩), .agg #[.int .i64 d, .int .i64 p, .int .i64 q, .int .i64 K, .int .i64 T]] w (DidQ B s f m r c w) := by
  have HB := Lib.hid (Bx.start (d := d) (p := p) (q := q) (K := K) (T := T) h hR hm hs)
  have HE := Lib.hid he
  have hw8 := wrap8 d
  clear h hR he hm hs
  rw [hd] at hw8
  clear hd
  go_enter Try.func19, Try.ntmps19
  obtain ⟨al0, h0⟩ := HB.out.prog
  have H0 := Lib.hid h0
  clear h0
  go_wp2_with fail
  refine (close_any H0.out p q (by have := HE.out.len; omega)).mono ?_
  rintro e w1 ⟨L', K1, T1, g1, e1, rfl, ho, hr1, hs1⟩
  have HB1 := Lib.hid ((HB.out.one hr1 hs1).zero (same_alloc (.cells #[.int .i64 K1, .int .i64 T1] 23)))
  have HO := Lib.hid ho
  have d1 := HB1.out.c1
  have d2 := HB1.out.c2
  clear ho hr1 hs1
  go_wp2_with fail
  obtain ⟨ao1, cap1, hR1⟩ := HB1.out.ref
  have HR1 := Lib.hid hR1
  have hb0 := ne_sh (shape_alloc2 w1 (.int .i64 K1) (.int .i64 T1) 23) hR1.sr (by decide)
  clear hR1
  refine (rclose_any HR1.out HE.out.fkey p q).mono ?_
  rintro e w2 ⟨R', K2, T2, g2, e2, rfl, hof, hst⟩
  obtain ⟨ao2, cap2, hR2, hs2⟩ := hst
  have hst2 : RStep s (w1.alloc (.cells #[.int .i64 K1, .int .i64 T1] 23)) r R' last w2 := ⟨ao2, cap2, hR2, hs2⟩
  have x0 := hs2.cell (a := ⟨w1.heap.size, 0, none⟩) (v := .int .i64 K1) (by simp) (not_rown (shape_alloc2 w1 (.int .i64 K1) (.int .i64 T1) 23) (by decide))
  have x1 := hs2.cell (a := ⟨w1.heap.size, 1, none⟩) (v := .int .i64 T1) (by simp) (not_rown (shape_alloc2 w1 (.int .i64 K1) (.int .i64 T1) 23) (by decide))
  have hlt := World.block_lt_of_cell? _ _ x0
  simp only at hlt
  have HB2 := Lib.hid (HB1.out.two hst2)
  obtain ⟨rfl, rfl, rfl, rfl, he2⟩ := close_eq HE.out HO.out hof
  have HE2 := Lib.hid he2
  clear hof hst2 he2 d1 d2 hR2 hs2 hb0
  go_wp2
  go_ret
  exact HB2.out.done HE2.out (same_alloc _)
set_option maxHeartbeats 3200000 in
set_option maxRecDepth 16384 in
theorem did_get {B s f m r c : Nat} {w : World} {L : List Ent} {R : List Fr} {last : Nat} {al : List (Int × Value)} {ao : Option Addr} {cap : Nat} (h : Rep w f m L al) (hR : RAt s w r ao cap R last) (he : Eqv L R last c) (hc : c < 100) (hm : B ≤ m) (hs : B ≤ s) (d p q K T : Int) (hd : d % 8 = 5) :
    Calls Try.prog 19 #[.pointer (some ⟨f, 0, none⟩), .pointer (some ⟨r, 0, none⟩), .agg #[.int .i64 d, .int .i64 p, .int .i64 q, .int .i64 K, .int .i64 T]] w (DidQ B s f m r c w) := by
  have HB := Lib.hid (Bx.start (d := d) (p := p) (q := q) (K := K) (T := T) h hR hm hs)
  have HE := Lib.hid he
  have hw8 := wrap8 d
  clear h hR he hm hs
  rw [hd] at hw8
  clear hd
  obtain ⟨K1, T1, e1, hg⟩ : ∃ K1 T1 e1, getV L p q = (.agg #[.int .i64 K1, .int .i64 T1], e1) := by
    unfold getV
    split
    · exact ⟨_, _, _, rfl⟩
    · split
      · exact ⟨_, _, _, rfl⟩
      · exact ⟨_, _, _, rfl⟩
  have hg2 := (get_eq HE.out p q).trans hg
  have HG := Lib.hid (And.intro hg hg2)
  clear hg hg2
  go_enter Try.func19, Try.ntmps19
  obtain ⟨al0, h0⟩ := HB.out.prog
  have H0 := Lib.hid h0
  clear h0
  go_wp2_with fail
  refine (get_any H0.out p q).mono ?_
  rintro e w1 ⟨rfl, hs1⟩
  rw [HG.out.1]
  simp only
  have HB1 := Lib.hid ((HB.out.zero hs1).zero (same_alloc (.cells #[.int .i64 K1, .int .i64 T1] 23)))
  have d1 := HB1.out.c1
  have d2 := HB1.out.c2
  clear hs1
  go_wp2_with fail
  obtain ⟨ao1, cap1, hR1⟩ := HB1.out.ref
  have HR1 := Lib.hid hR1
  clear hR1
  refine (rget_any HR1.out p q).mono ?_
  rintro e w2 ⟨rfl, hs2⟩
  rw [HG.out.2]
  simp only
  have x0 := hs2.cell (a := ⟨w1.heap.size, 0, none⟩) (v := .int .i64 K1) (by simp) (fun h => h)
  have x1 := hs2.cell (a := ⟨w1.heap.size, 1, none⟩) (v := .int .i64 T1) (by simp) (fun h => h)
  have hlt := World.block_lt_of_cell? _ _ x0
  simp only at hlt
  have HB2 := Lib.hid (HB1.out.zero hs2)
  clear d1 d2 hs2
  go_wp2
  go_ret
  exact HB2.out.done HE.out.up (same_alloc _)
end Go.Proofs.Ytcllofffbmbmlaa
