/- Plain laws of a heap that grows and shrinks again. Conditions: none. -/
import Derived.Test.YtlbgnmcjdmdjpaaK7
set_option linter.unusedSimpArgs false
set_option linter.unusedVariables false
open Go Go.Proofs
namespace Go.Proofs.Ytlbgnmcjdmdjpaa
def zeroS (n : Nat) : ByteArray := ⟨(List.replicate n (0 : UInt8)).toArray⟩
theorem zeroS_size (n : Nat) : (zeroS n).size = n := by simp [zeroS, ByteArray.size]
theorem zeroS_get (n i : Nat) (h : i < n) : (zeroS n).data.toList[i]? = some 0 := by simp [zeroS, h]
/-- A memory as it was behind the image. -/
structure Base90 (M1 M : Mm) (T : Nat → Option Nat) : Prop where
  good : M.Good [(0, T)] (fun _ => 0)
  nn : M.n = 90
  le1 : ∀ x, M.R x ≤ 1
  lk : ∀ q, q < 256 → M.lk 0 q = M1.lk 0 q
theorem left_same {M1 M : Mm} {T1 T : Nat → Option Nat} (h1 : M1.Good [(0, T1)] (fun _ => 0)) (l1 : ∀ x, M1.R x ≤ 1) (n1 : M1.n = 90) (h : M.Good [(0, T)] (fun _ => 0)) (l : ∀ x, M.R x ≤ 1) (n : M.n = 90) (hp : ∀ q, q < 256 → ((M.lk (0 : Nat) q).1 ≠ 0 ↔ (M1.lk (0 : Nat) q).1 ≠ 0)) : nfree M.R M.n = nfree M1.R M1.n := by
  have a := h1.left l1
  have b := h.left l
  have t := tcn_pages h1.tree h.tree hp
  have p := pcnt_pages (M := M1) (N := M) (r := 0) (s := 0) hp
  simp only [ssum] at a b
  rw [n1] at a ⊢
  rw [n] at b ⊢
  omega
theorem Base90.left {M1 M : Mm} {T1 T : Nat → Option Nat} {e : Nat} (hI : Img90 M1 T1 e) (h : Base90 M1 M T) : nfree M.R M.n = nfree M1.R M1.n :=
  left_same hI.good hI.le1 hI.n h.good h.le1 h.nn (fun q hq => by rw [show ((0 : Nat) : Int) = 0 from rfl, h.lk q hq])
/-- A memory whose heap has grown. -/
structure Up90 (M1 M : Mm) (T : Nat → Option Nat) (e n : Nat) : Prop where
  good : M.Good [(0, T)] (fun _ => 0)
  nn : M.n = 90
  le1 : ∀ x, M.R x ≤ 1
  lk : ∀ q, q < 256 → ¬ (e ≤ q ∧ q < e + n) → M.lk 0 q = M1.lk 0 q
  up : ∀ q, e ≤ q → q < e + n → ∃ k : Nat, M.lk 0 q = (3, (k : Int)) ∧ ∀ o, M.B k o = 0
theorem Base90.grow {M1 M : Mm} {T1 T : Nat → Option Nat} {e n : Nat} (hI : Img90 M1 T1 e) (h : Base90 M1 M T) (he : e ≤ 4) (hn : n ≤ 20) (atts : List Att) :
    ∃ (N : Mm) (T' : Nat → Option Nat), M.grow ⟨0, 0, e, 0, atts⟩ n = (N, 0) ∧ Up90 M1 N T' e n := by
  obtain ⟨N, T', a, g⟩ := h.good.grow_up (s := ⟨0, 0, e, 0, atts⟩) (e := e) (n := n) rfl (by simp [Spc.end_]) (Int.le_refl _) (by omega) (fun q a b => by rw [show ((0 : Nat) : Int) = 0 from rfl, h.lk q (by omega)]; exact hI.mid q a (by omega)) (by rw [h.left hI]; have := hI.room; omega)
  refine ⟨N, T', a, g.good, g.ext.n.trans h.nn, g.le1 h.le1, fun q hq hr => ?_, fun q a b => ?_⟩
  · rw [← h.lk q hq]
    exact g.ext.hd q hq (fun hm => hr (mem_upFrom.1 hm))
  · obtain ⟨q', k, e1, e2, e3, e4, e5⟩ := g.pgs q (mem_upFrom.2 ⟨a, b⟩)
    have : q' = q := by omega
    subst this
    exact ⟨k, e4, e5⟩
theorem Up90.zero {M1 M : Mm} {T : Nat → Option Nat} {e n : Nat} (h : Up90 M1 M T e n) (he : e ≤ 4) (hn : n ≤ 20) {er : Int} {s : ByteArray} (hr : InR M 0 (64 * (e : Int)) (64 * (n : Int)) er s) : er = 0 ∧ s = zeroS (64 * n) := by
  have hu : M.isUsed 0 = true := by
    have := h.good.tree
    exact Mm.isUsed_nat (k := 0) this.rn (by rw [this.rR]; decide)
  refine inr_pgc hu (64 * e) (zeroS (64 * n)) (by rw [zeroS_size]; omega) (by rw [zeroS_size]; omega) (fun i hi => ?_) (by rw [zeroS_size, show ((64 * e : Nat) : Int) = 64 * (e : Int) by omega, show ((64 * n : Nat) : Int) = 64 * (n : Int) by omega]; exact hr)
  rw [zeroS_size] at hi
  obtain ⟨k, e1, e2⟩ := h.up (e + i / 64) (by omega) (by omega)
  have e3 := h.good.pgc (a := (0, T)) List.mem_cons_self (q := e + i / 64) (fl := 3) (k := k) (by omega) e1 (by decide)
  refine ⟨3, M.B k, ?_, by rw [e2]; exact zeroS_get _ _ hi⟩
  rw [show ((64 * e + i : Nat) : Int) / 64 = ((e + i / 64 : Nat) : Int) by omega]
  exact e3
theorem Up90.chk {M1 M : Mm} {T : Nat → Option Nat} {e n : Nat} (h : Up90 M1 M T e n) (he : e ≤ 4) (hn1 : 1 ≤ n) {er : Int} (hc : ChkR M 0 (64 * (e : Int)) 4 true er) : er = 0 := by
  have hu : M.isUsed 0 = true := by
    have := h.good.tree
    exact Mm.isUsed_nat (k := 0) this.rn (by rw [this.rR]; decide)
  obtain ⟨k, e1, e2⟩ := h.up e (Nat.le_refl _) (by omega)
  have e3 := h.good.pgc (a := (0, T)) List.mem_cons_self (q := e) (fl := 3) (k := k) (by omega) e1 (by decide)
  exact chk_pgc hu (64 * e) 4 true (by omega) (by omega) (fun t ht => ⟨3, M.B k, by rw [show ((64 * e + t : Nat) : Int) / 64 = (e : Int) by omega]; exact e3, fun _ => by decide⟩) (by rw [show ((64 * e : Nat) : Int) = 64 * (e : Int) by omega]; exact hc)
/-- A memory whose heap has grown, whatever its bytes. -/
structure Used90 (M1 M : Mm) (T : Nat → Option Nat) (e n : Nat) : Prop where
  good : M.Good [(0, T)] (fun _ => 0)
  nn : M.n = 90
  le1 : ∀ x, M.R x ≤ 1
  lk : ∀ q, q < 256 → ¬ (e ≤ q ∧ q < e + n) → M.lk 0 q = M1.lk 0 q
theorem Up90.used {M1 M : Mm} {T : Nat → Option Nat} {e n : Nat} (h : Up90 M1 M T e n) : Used90 M1 M T e n := ⟨h.good, h.nn, h.le1, h.lk⟩
theorem Up90.out {M1 M N : Mm} {T : Nat → Option Nat} {e n : Nat} (h : Up90 M1 M T e n) (he : e ≤ 4) (hn1 : 1 ≤ n) {s : ByteArray} (ho : OutR M N 0 T (64 * e) (64 * e + 4) s) : Used90 M1 N T e n := by
  obtain ⟨k, e1, e2⟩ := h.up e (Nat.le_refl _) (by omega)
  have e3 := h.good.pgc (a := (0, T)) List.mem_cons_self (q := e) (fl := 3) (k := k) (by omega) e1 (by decide)
  obtain ⟨g, hlk⟩ := h.good.outR h.le1 (a := (0, T)) List.mem_cons_self ho (fun t t1 t2 => by
    have e2 : ((t : Int) / 64) = (e : Int) := by omega
    exact (Mm.vb_pgc (i := t) (by rw [e2]; exact e3)).1)
  exact ⟨g, ho.tab.n.trans h.nn, fun x => by rw [ho.tab.R]; exact h.le1 x, fun q hq hr => (hlk _ List.mem_cons_self q hq).trans (h.lk q hq hr)⟩
theorem Used90.shrink {M1 M : Mm} {T1 T : Nat → Option Nat} {e n : Nat} (hI : Img90 M1 T1 e) (h : Used90 M1 M T e n) (he : e ≤ 4) (hn1 : 1 ≤ n) (hn : n ≤ 20) (atts : List Att) :
    ∃ (N : Mm) (T' : Nat → Option Nat), M.grow ⟨0, 0, e, n, atts⟩ (-(n : Int)) = (N, 0) ∧ N.Good [(0, T')] (fun _ => 0) ∧ N.n = 90 ∧ (∀ x, N.R x ≤ 1) ∧ (∀ q, q < 256 → ((N.lk (0 : Nat) q).1 ≠ 0 ↔ (M1.lk (0 : Nat) q).1 ≠ 0)) ∧ (∀ q, e ≤ q → q < 254 → (N.lk 0 q).1 = 0) := by
  obtain ⟨N, T', a, g, x, z, l⟩ := h.good.grow_down (s := ⟨0, 0, e, n, atts⟩) (e := e + n) (n := n) rfl (by simp [Spc.end_]) (Int.le_refl _) (by omega) (by omega) (by omega)
  have key : ∀ q, q < 256 → ¬ (e ≤ q ∧ q < e + n) → N.lk 0 q = M1.lk 0 q := fun q hq hr => (x.hd q hq (fun hs => hr ⟨by omega, hs.2⟩)).trans (h.lk q hq hr)
  refine ⟨N, T', a, g, x.n.trans h.nn, l h.le1, fun q hq => ?_, fun q q1 q2 => ?_⟩
  · by_cases hr : e ≤ q ∧ q < e + n
    · have e1 := z q (by omega) hr.2
      have e2 := hI.mid q hr.1 (by omega)
      rw [show ((0 : Nat) : Int) = 0 from rfl] at e1 ⊢
      rw [e1, e2]
    · rw [show ((0 : Nat) : Int) = 0 from rfl, key q hq hr]
  · by_cases hr : e ≤ q ∧ q < e + n
    · exact z q (by omega) hr.2
    · rw [key q (by omega) hr]; exact hI.mid q q1 q2
theorem Base90.grow' {M1 M : Mm} {T1 T : Nat → Option Nat} {e n : Nat} (hI : Img90 M1 T1 e) (g : M.Good [(0, T)] (fun _ => 0)) (hn0 : M.n = 90) (l : ∀ x, M.R x ≤ 1) (hp : ∀ q, q < 256 → ((M.lk (0 : Nat) q).1 ≠ 0 ↔ (M1.lk (0 : Nat) q).1 ≠ 0)) (hz : ∀ q, e ≤ q → q < 254 → (M.lk 0 q).1 = 0) (he : e ≤ 4) (hn : n ≤ 20) (atts : List Att) :
    ∃ (N : Mm) (T' : Nat → Option Nat), M.grow ⟨0, 0, e, 0, atts⟩ n = (N, 0) ∧ Up90 M N T' e n := by
  have hl := left_same hI.good hI.le1 hI.n g l hn0 hp
  obtain ⟨N, T', a, g⟩ := g.grow_up (s := ⟨0, 0, e, 0, atts⟩) (e := e) (n := n) rfl (by simp [Spc.end_]) (Int.le_refl _) (by omega) (fun q a b => hz q a (by omega)) (by rw [hl]; have := hI.room; omega)
  refine ⟨N, T', a, g.good, g.ext.n.trans hn0, g.le1 l, fun q hq hr => g.ext.hd q hq (fun hm => hr (mem_upFrom.1 hm)), fun q a b => ?_⟩
  obtain ⟨q', k, e1, e2, e3, e4, e5⟩ := g.pgs q (mem_upFrom.2 ⟨a, b⟩)
  have : q' = q := by omega
  subst this
  exact ⟨k, e4, e5⟩
/-- All of it. -/
theorem grows_law {M1 : Mm} {T1 : Nat → Option Nat} {e n : Nat} (hI : Img90 M1 T1 e) (he : e ≤ 4) (h1 : 1 ≤ n) (hn : n ≤ 20) : ∃ (M2 : Mm) (T2 : Nat → Option Nat), M1.grow ⟨0, 0, e, 0, []⟩ n = (M2, 0) ∧ Up90 M1 M2 T2 e n ∧
    ∀ (M3 : Mm) (s : ByteArray), OutR M2 M3 0 T2 (64 * e) (64 * e + 4) s → ∃ (M4 M5 M6 : Mm) (T5 : Nat → Option Nat), M3.grow ⟨0, 0, e, n, []⟩ (-(n : Int)) = (M4, 0) ∧ M4.grow ⟨0, 0, e, 0, []⟩ n = (M5, 0) ∧ Up90 M4 M5 T5 e n ∧ M5.grow ⟨0, 0, e, n, []⟩ (-(n : Int)) = (M6, 0) ∧ nfree M6.R M6.n = nfree M1.R M1.n := by
  have b0 : Base90 M1 M1 T1 := ⟨hI.good, hI.n, hI.le1, fun _ _ => rfl⟩
  obtain ⟨M2, T2, g2, u2⟩ := b0.grow hI he hn []
  refine ⟨M2, T2, g2, u2, fun M3 s ho => ?_⟩
  obtain ⟨M4, T4, g4, G4, n4, l4, p4, z4⟩ := (u2.out he h1 ho).shrink hI he h1 hn []
  obtain ⟨M5, T5, g5, u5⟩ := Base90.grow' hI G4 n4 l4 p4 z4 he hn []
  -- seen from the memory behind the first shrinking
  have hI4 : Img90 M4 T4 e ∨ True := .inr trivial
  obtain ⟨N, T', a, g, x, z, l⟩ := u5.good.grow_down (s := ⟨0, 0, e, n, []⟩) (e := e + n) (n := n) rfl (by simp [Spc.end_]) (Int.le_refl _) (by omega) (by omega) (by omega)
  refine ⟨M4, M5, N, T5, g4, g5, u5, a, left_same hI.good hI.le1 hI.n g (l u5.le1) (x.n.trans u5.nn) (fun q hq => ?_)⟩
  rw [← p4 q hq]
  by_cases hr : e ≤ q ∧ q < e + n
  · have e1 := z q (by omega) hr.2
    have e2 := z4 q hr.1 (by omega)
    rw [show ((0 : Nat) : Int) = 0 from rfl] at e1 ⊢
    rw [e1, e2]
  · have e1 : N.lk (0 : Nat) q = M4.lk (0 : Nat) q := (x.hd q hq (fun hs => hr ⟨by omega, hs.2⟩)).trans (u5.lk q hq hr)
    rw [e1]
end Go.Proofs.Ytlbgnmcjdmdjpaa
