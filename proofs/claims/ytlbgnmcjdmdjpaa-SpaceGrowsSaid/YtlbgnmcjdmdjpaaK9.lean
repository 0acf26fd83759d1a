/- Plain laws of a heap that grows and shrinks again. Conditions: none.
The walk of SpaceGrows. Conditions: the arguments' form. -/
import Derived.Test.YtlbgnmcjdmdjpaaK7
import Derived.Test.YtlbgnmcjdmdjpaaK8
set_option linter.unusedSimpArgs false
set_option linter.unusedVariables false
open Go Go.Proofs
namespace Go.Proofs.Ytlbgnmcjdmdjpaa
def zeroS (n : Nat) : ByteArray := ⟨(List.replicate n (0 : UInt8)).toArray⟩
theorem zeroS_size (n : Nat) : (zeroS n).size = n := by simp [zeroS, ByteArray.size]
theorem zeroS_get (n i : Nat) (h : i < n) : (zeroS n).data.toList[i]? = some 0 := by simp [zeroS, h]
/-- A memory as it was behind the image. -/
structure Base90 (M1 M : Mm) (T : Nat → Option Nat) : Prop where
  good : M.Good [(0, T)] (fun _ => 0)
  nn : M.n = 90
  le1 : ∀ x, M.R x ≤ 1
  lk : ∀ q, q < 256 → M.lk 0 q = M1.lk 0 q
theorem left_same {M1 M : Mm} {T1 T : Nat → Option Nat} (h1 : M1.Good [(0, T1)] (fun _ => 0)) (l1 : ∀ x, M1.R x ≤ 1) (n1 : M1.n = 90) (h : M.Good [(0, T)] (fun _ => 0)) (l : ∀ x, M.R x ≤ 1) (n : M.n = 90) (hp : ∀ q, q < 256 → ((M.lk (0 : Nat) q).1 ≠ 0 ↔ (M1.lk (0 : Nat) q).1 ≠ 0)) : nfree M.R M.n = nfree M1.R M1.n := by
  have a := h1.left l1
  have b := h.left l
  have t := tcn_pages h1.tree h.tree hp
  have p := pcnt_pages (M := M1) (N := M) (r := 0) (s := 0) hp
  simp only [ssum] at a b
  rw [n1] at a ⊢
  rw [n] at b ⊢
  omega
theorem Base90.left {M1 M : Mm} {T1 T : Nat → Option Nat} {e : Nat} (hI : Img90 M1 T1 e) (h : Base90 M1 M T) : nfree M.R M.n = nfree M1.R M1.n :=
  left_same hI.good hI.le1 hI.n h.good h.le1 h.nn (fun q hq => by rw [show ((0 : Nat) : Int) = 0 from rfl, h.lk q hq])
/-- A memory whose heap has grown. -/
structure Up90 (M1 M : Mm) (T : Nat → Option Nat) (e n : Nat) : Prop where
  good : M.Good [(0, T)] (fun _ => 0)
  nn : M.n = 90
  le1 : ∀ x, M.R x ≤ 1
  lk : ∀ q, q < 256 → ¬ (e ≤ q ∧ q < e + n) → M.lk 0 q = M1.lk 0 q
  up : ∀ q, e ≤ q → q < e + n → ∃ k : Nat, M.lk 0 q = (3, (k : Int)) ∧ ∀ o, M.B k o = 0
theorem Base90.grow {M1 M : Mm} {T1 T : Nat → Option Nat} {e n : Nat} (hI : Img90 M1 T1 e) (h : Base90 M1 M T) (he : e ≤ 4) (hn : n ≤ 20) (atts : List Att) :
    ∃ (N : Mm) (T' : Nat → Option Nat), M.grow ⟨0, 0, e, 0, atts⟩ n = (N, 0) ∧ Up90 M1 N T' e n := by
  obtain ⟨N, T', a, g⟩ := h.good.grow_up (s := ⟨0, 0, e, 0, atts⟩) (e := e) (n := n) rfl (by simp [Spc.end_]) (Int.le_refl _) (by omega) (fun q a b => by rw [show ((0 : Nat) : Int) = 0 from rfl, h.lk q (by omega)]; exact hI.mid q a (by omega)) (by rw [h.left hI]; have := hI.room; omega)
  refine ⟨N, T', a, g.good, g.ext.n.trans h.nn, g.le1 h.le1, fun q hq hr => ?_, fun q a b => ?_⟩
  · rw [← h.lk q hq]
    exact g.ext.hd q hq (fun hm => hr (mem_upFrom.1 hm))
  · obtain ⟨q', k, e1, e2, e3, e4, e5⟩ := g.pgs q (mem_upFrom.2 ⟨a, b⟩)
    have : q' = q := by omega
    subst this
    exact ⟨k, e4, e5⟩
theorem Up90.zero {M1 M : Mm} {T : Nat → Option Nat} {e n : Nat} (h : Up90 M1 M T e n) (he : e ≤ 4) (hn : n ≤ 20) {er : Int} {s : ByteArray} (hr : InR M 0 (64 * (e : Int)) (64 * (n : Int)) er s) : er = 0 ∧ s = zeroS (64 * n) := by
  have hu : M.isUsed 0 = true := by
    have := h.good.tree
    exact Mm.isUsed_nat (k := 0) this.rn (by rw [this.rR]; decide)
  refine inr_pgc hu (64 * e) (zeroS (64 * n)) (by rw [zeroS_size]; omega) (by rw [zeroS_size]; omega) (fun i hi => ?_) (by rw [zeroS_size, show ((64 * e : Nat) : Int) = 64 * (e : Int) by omega, show ((64 * n : Nat) : Int) = 64 * (n : Int) by omega]; exact hr)
  rw [zeroS_size] at hi
  obtain ⟨k, e1, e2⟩ := h.up (e + i / 64) (by omega) (by omega)
  have e3 := h.good.pgc (a := (0, T)) List.mem_cons_self (q := e + i / 64) (fl := 3) (k := k) (by omega) e1 (by decide)
  refine ⟨3, M.B k, ?_, by rw [e2]; exact zeroS_get _ _ hi⟩
  rw [show ((64 * e + i : Nat) : Int) / 64 = ((e + i / 64 : Nat) : Int) by omega]
  exact e3
theorem Up90.chk {M1 M : Mm} {T : Nat → Option Nat} {e n : Nat} (h : Up90 M1 M T e n) (he : e ≤ 4) (hn1 : 1 ≤ n) {er : Int} (hc : ChkR M 0 (64 * (e : Int)) 4 true er) : er = 0 := by
  have hu : M.isUsed 0 = true := by
    have := h.good.tree
    exact Mm.isUsed_nat (k := 0) this.rn (by rw [this.rR]; decide)
  obtain ⟨k, e1, e2⟩ := h.up e (Nat.le_refl _) (by omega)
  have e3 := h.good.pgc (a := (0, T)) List.mem_cons_self (q := e) (fl := 3) (k := k) (by omega) e1 (by decide)
  exact chk_pgc hu (64 * e) 4 true (by omega) (by omega) (fun t ht => ⟨3, M.B k, by rw [show ((64 * e + t : Nat) : Int) / 64 = (e : Int) by omega]; exact e3, fun _ => by decide⟩) (by rw [show ((64 * e : Nat) : Int) = 64 * (e : Int) by omega]; exact hc)
/-- A memory whose heap has grown, whatever its bytes. -/
structure Used90 (M1 M : Mm) (T : Nat → Option Nat) (e n : Nat) : Prop where
  good : M.Good [(0, T)] (fun _ => 0)
  nn : M.n = 90
  le1 : ∀ x, M.R x ≤ 1
  lk : ∀ q, q < 256 → ¬ (e ≤ q ∧ q < e + n) → M.lk 0 q = M1.lk 0 q
theorem Up90.used {M1 M : Mm} {T : Nat → Option Nat} {e n : Nat} (h : Up90 M1 M T e n) : Used90 M1 M T e n := ⟨h.good, h.nn, h.le1, h.lk⟩
theorem Up90.out {M1 M N : Mm} {T : Nat → Option Nat} {e n : Nat} (h : Up90 M1 M T e n) (he : e ≤ 4) (hn1 : 1 ≤ n) {s : ByteArray} (ho : OutR M N 0 T (64 * e) (64 * e + 4) s) : Used90 M1 N T e n := by
  obtain ⟨k, e1, e2⟩ := h.up e (Nat.le_refl _) (by omega)
  have e3 := h.good.pgc (a := (0, T)) List.mem_cons_self (q := e) (fl := 3) (k := k) (by omega) e1 (by decide)
  obtain ⟨g, hlk⟩ := h.good.outR h.le1 (a := (0, T)) List.mem_cons_self ho (fun t t1 t2 => by
    have e2 : ((t : Int) / 64) = (e : Int) := by omega
    exact (Mm.vb_pgc (i := t) (by rw [e2]; exact e3)).1)
  exact ⟨g, ho.tab.n.trans h.nn, fun x => by rw [ho.tab.R]; exact h.le1 x, fun q hq hr => (hlk _ List.mem_cons_self q hq).trans (h.lk q hq hr)⟩
theorem Used90.shrink {M1 M : Mm} {T1 T : Nat → Option Nat} {e n : Nat} (hI : Img90 M1 T1 e) (h : Used90 M1 M T e n) (he : e ≤ 4) (hn1 : 1 ≤ n) (hn : n ≤ 20) (atts : List Att) :
    ∃ (N : Mm) (T' : Nat → Option Nat), M.grow ⟨0, 0, e, n, atts⟩ (-(n : Int)) = (N, 0) ∧ N.Good [(0, T')] (fun _ => 0) ∧ N.n = 90 ∧ (∀ x, N.R x ≤ 1) ∧ (∀ q, q < 256 → ((N.lk (0 : Nat) q).1 ≠ 0 ↔ (M1.lk (0 : Nat) q).1 ≠ 0)) ∧ (∀ q, e ≤ q → q < 254 → (N.lk 0 q).1 = 0) := by
  obtain ⟨N, T', a, g, x, z, l⟩ := h.good.grow_down (s := ⟨0, 0, e, n, atts⟩) (e := e + n) (n := n) rfl (by simp [Spc.end_]) (Int.le_refl _) (by omega) (by omega) (by omega)
  have key : ∀ q, q < 256 → ¬ (e ≤ q ∧ q < e + n) → N.lk 0 q = M1.lk 0 q := fun q hq hr => (x.hd q hq (fun hs => hr ⟨by omega, hs.2⟩)).trans (h.lk q hq hr)
  refine ⟨N, T', a, g, x.n.trans h.nn, l h.le1, fun q hq => ?_, fun q q1 q2 => ?_⟩
  · by_cases hr : e ≤ q ∧ q < e + n
    · have e1 := z q (by omega) hr.2
      have e2 := hI.mid q hr.1 (by omega)
      rw [show ((0 : Nat) : Int) = 0 from rfl] at e1 ⊢
      rw [e1, e2]
    · rw [show ((0 : Nat) : Int) = 0 from rfl, key q hq hr]
  · by_cases hr : e ≤ q ∧ q < e + n
    · exact z q (by omega) hr.2
    · rw [key q (by omega) hr]; exact hI.mid q q1 q2
theorem Base90.grow' {M1 M : Mm} {T1 T : Nat → Option Nat} {e n : Nat} (hI : Img90 M1 T1 e) (g : M.Good [(0, T)] (fun _ => 0)) (hn0 : M.n = 90) (l : ∀ x, M.R x ≤ 1) (hp : ∀ q, q < 256 → ((M.lk (0 : Nat) q).1 ≠ 0 ↔ (M1.lk (0 : Nat) q).1 ≠ 0)) (hz : ∀ q, e ≤ q → q < 254 → (M.lk 0 q).1 = 0) (he : e ≤ 4) (hn : n ≤ 20) (atts : List Att) :
    ∃ (N : Mm) (T' : Nat → Option Nat), M.grow ⟨0, 0, e, 0, atts⟩ n = (N, 0) ∧ Up90 M N T' e n := by
  have hl := left_same hI.good hI.le1 hI.n g l hn0 hp
  obtain ⟨N, T', a, g⟩ := g.grow_up (s := ⟨0, 0, e, 0, atts⟩) (e := e) (n := n) rfl (by simp [Spc.end_]) (Int.le_refl _) (by omega) (fun q a b => hz q a (by omega)) (by rw [hl]; have := hI.room; omega)
  refine ⟨N, T', a, g.good, g.ext.n.trans hn0, g.le1 l, fun q hq hr => g.ext.hd q hq (fun hm => hr (mem_upFrom.1 hm)), fun q a b => ?_⟩
  obtain ⟨q', k, e1, e2, e3, e4, e5⟩ := g.pgs q (mem_upFrom.2 ⟨a, b⟩)
  have : q' = q := by omega
  subst this
  exact ⟨k, e4, e5⟩
/-- All of it. -/
theorem grows_law {M1 : Mm} {T1 : Nat → Option Nat} {e n : Nat} (hI : Img90 M1 T1 e) (he : e ≤ 4) (h1 : 1 ≤ n) (hn : n ≤ 20) : ∃ (M2 : Mm) (T2 : Nat → Option Nat), M1.grow ⟨0, 0, e, 0, []⟩ n = (M2, 0) ∧ Up90 M1 M2 T2 e n ∧
    ∀ (M3 : Mm) (s : ByteArray), OutR M2 M3 0 T2 (64 * e) (64 * e + 4) s → ∃ (M4 M5 M6 : Mm) (T5 : Nat → Option Nat), M3.grow ⟨0, 0, e, n, []⟩ (-(n : Int)) = (M4, 0) ∧ M4.grow ⟨0, 0, e, 0, []⟩ n = (M5, 0) ∧ Up90 M4 M5 T5 e n ∧ M5.grow ⟨0, 0, e, n, []⟩ (-(n : Int)) = (M6, 0) ∧ nfree M6.R M6.n = nfree M1.R M1.n := by
  have b0 : Base90 M1 M1 T1 := ⟨hI.good, hI.n, hI.le1, fun _ _ => rfl⟩
  obtain ⟨M2, T2, g2, u2⟩ := b0.grow hI he hn []
  refine ⟨M2, T2, g2, u2, fun M3 s ho => ?_⟩
  obtain ⟨M4, T4, g4, G4, n4, l4, p4, z4⟩ := (u2.out he h1 ho).shrink hI he h1 hn []
  obtain ⟨M5, T5, g5, u5⟩ := Base90.grow' hI G4 n4 l4 p4 z4 he hn []
  -- seen from the memory behind the first shrinking
  have hI4 : Img90 M4 T4 e ∨ True := .inr trivial
  obtain ⟨N, T', a, g, x, z, l⟩ := u5.good.grow_down (s := ⟨0, 0, e, n, []⟩) (e := e + n) (n := n) rfl (by simp [Spc.end_]) (Int.le_refl _) (by omega) (by omega) (by omega)
  refine ⟨M4, M5, N, T5, g4, g5, u5, a, left_same hI.good hI.le1 hI.n g (l u5.le1) (x.n.trans u5.nn) (fun q hq => ?_)⟩
  rw [← p4 q hq]
  by_cases hr : e ≤ q ∧ q < e + n
  · have e1 := z q (by omega) hr.2
    have e2 := z4 q hr.1 (by omega)
    rw [show ((0 : Nat) : Int) = 0 from rfl] at e1 ⊢
    rw [e1, e2]
  · have e1 : N.lk (0 : Nat) q = M4.lk (0 : Nat) q := (x.hd q hq (fun hs => hr ⟨by omega, hs.2⟩)).trans (u5.lk q hq hr)
    rw [e1]
end Go.Proofs.Ytlbgnmcjdmdjpaa
namespace Go.Proofs.Ytlbgnmcjdmdjpaa
open Go.RowKit Go.Shelf
attribute [local go_sem] Oper.semAt_some
def zcN (N : Nat) : Array Value := madeCells #[.int .u8 0] N
theorem makeN (w : World) (N : Nat) (hN : N ≤ 2000) : (Instr.makeSlice 66 (.int .i64 (N : Int)) (.int .i64 (N : Int))).run Try.prog w = .ok (.slice (some ⟨w.heap.size, 0, none⟩) N N) (w.alloc (.cells (zcN N) 5)) := by
  obtain ⟨i, hi, h1, h2, h3⟩ := info_parts infoU8
  have := run_make (P := Try.prog) w 66 5 i _ Try.underlying66 hi h1 .i64 .i64 N N (by omega) (by omega) (by rw [h3]; omega) (by omega)
  rw [h2] at this
  simp only [Int.toNat_natCast, Nat.mul_one] at this
  exact this
theorem zcN_get (N j : Nat) (hj : j < N) : (zcN N)[j]? = some (.int .u8 0) := by
  unfold zcN madeCells
  rw [Array.getElem?_map, Array.getElem?_range, if_pos hj]
  simp [Nat.mod_one]
theorem convN (w : World) (b N : Nat) (h : ∀ j, j < N → w.cell? ⟨b, j, none⟩ = some (.int .u8 0)) : (convert 66 9 (.slice (some ⟨b, 0, none⟩) N N)).run Try.prog w = .ok (.string (zeroS N)) w := by
  have := run_convert_bytes_back (P := Try.prog) w 66 9 5 ⟨b, 0, none⟩ N (List.replicate N (0 : UInt8)) Try.underlying66 Try.underlying5 Try.underlying9 (by
    intro j hj
    have hj' : j < N := by simpa using hj
    have e : (⟨b, 0, none⟩ : Addr).add j = ⟨b, j, none⟩ := by unfold Addr.add; by_cases h : j = 0 <;> simp [h]
    rw [e, h j hj', List.getElem_replicate]
    rfl)
  rw [List.length_replicate] at this
  exact this
theorem madeN_cell (w : World) (N j : Nat) (hj : j < N) : (w.alloc (.cells (zcN N) 5)).cell? ⟨w.heap.size, j, none⟩ = some (.int .u8 0) := by
  have := zcN_get N j hj
  simp [go_sem, this]
def usedS : ByteArray := ⟨#[117, 115, 101, 100]⟩
set_option maxHeartbeats 3200000 in
set_option maxRecDepth 8192 in
theorem grows_walk (w : World) (data : ByteArray) (n : Int) (h2 : data.size ≤ 9223372036854775807) (hin : In64 n) :
    Calls Try.prog 14 #[.string data, .int .i64 n] w fun e w' => e = .returned (.bool true) ∧ Same (fun _ => False) w w' := by
  by_cases hn : n < 1 ∨ 20 < n
  · rcases hn with hn | hn
    · have hd : decide (n < 1) = true := by simpa using hn
      go_enter Try.func14, Try.ntmps14
      go_wp2_with fail
      refine (shown4 _).mono ?_
      rintro e w1 ⟨rfl, hs1⟩
      go_wp2
      go_ret
      exact ⟨rfl, hs1⟩
    · have hd : decide (n < 1) = false := by simp; omega
      have hd2 : decide (20 < n) = true := by simpa using hn
      go_enter Try.func14, Try.ntmps14
      go_wp2_with fail
      refine (shown4 _).mono ?_
      rintro e w1 ⟨rfl, hs1⟩
      go_wp2
      go_ret
      exact ⟨rfl, hs1⟩
  obtain ⟨n, rfl⟩ := Int.eq_ofNat_of_zero_le (show 0 ≤ n by omega)
  have hd : decide ((n : Int) < 1) = false := by simp; omega
  have hd2 : decide ((20 : Int) < n) = false := by simp; omega
  have hn1 : 1 ≤ n := by omega
  have hn9 : n ≤ 20 := by omega
  have HN := Lib.hid (And.intro hn1 hn9)
  clear hn hin
  go_enter Try.func14, Try.ntmps14
  go_wp2_with fail
  refine (shown4 _).mono ?_
  rintro e w1 ⟨rfl, hs1⟩
  go_wp2_with fail
  refine (new_any _ 90 (by omega) (by omega)).mono ?_
  rintro e w2 ⟨f, fb, rfl, hf, hfb, hM, hs2⟩
  have hs02 : Same (fun _ => False) w w2 := hs1.trans hs2
  have hsz1 := hs1.size
  have hwf : w.heap.size ≤ fb := by omega
  have HH := Lib.hid (And.intro hs02 (And.intro hwf hM))
  clear hs1 hs2 hsz1 hf hfb hs02 hwf hM hn1 hn9
  go_wp2_with fail
  refine (image_any _ ByteArray.empty data).mono ?_
  rintro e w3 ⟨rfl, hs3⟩
  obtain ⟨hs02, hwf, hM⟩ := HH.out
  have hM3 := hM.same0 hs3
  have hs03 := hs02.trans hs3
  have hx := exec_img hM3 ByteArray.empty data
  rw [show cut200 ByteArray.empty = ByteArray.empty from rfl] at hx
  obtain ⟨M1, T1, hX, hI, he4⟩ := img90 (cut200 data) (by rw [cut200_size]; omega)
  rw [hX, show spn 0 ByteArray.empty.size = 0 from rfl] at hx
  simp only at hx
  obtain ⟨e0, he0⟩ : ∃ x, spn 0 (cut200 data).size = x := ⟨_, rfl⟩
  rw [he0] at hx hI he4
  have hsz03 := hs03.size
  have HI := Lib.hid (And.intro hs03 (And.intro hI (And.intro he4 (And.intro hwf hsz03))))
  clear hs02 hwf hM hM3 hs03 hs3 HH hX hI he4 he0 hsz03
  go_wp2_with fail
  refine hx.mono ?_
  rintro e w4 ⟨hM4, hs4, ⟨-, rfl⟩ | ⟨h, -⟩⟩
  rotate_left
  · exact absurd rfl h
  obtain ⟨W5, hW5⟩ : ∃ W, W = w4.alloc (.cells #[.int .i64 0, .int .i64 0, .int .i64 (e0 : Int), .int .i64 0, .slice none 0 0] 75) := ⟨_, rfl⟩
  have hM5 : MemAt W5 f fb M1 := by rw [hW5]; exact hM4.same0 (same_alloc _)
  have hs5 : Same (· = fb) w3 W5 := by rw [hW5]; exact hs4.trans ((same_alloc _).mono (fun _ _ h => h.elim))
  have F5 : Five W5 w4.heap.size (.int .i64 0) (.int .i64 0) (.int .i64 (e0 : Int)) (.int .i64 0) (.slice none 0 0) := by rw [hW5]; exact five_new _ _ _ _ _ _
  have hfl := hM4.lt
  have CL := Lib.hid (left_any hM5)
  have HJ := Lib.hid (And.intro hM5 (And.intro hs5 F5))
  have HFB := Lib.hid hfl
  clear hx hM4 hs4 hM5 hs5 F5 hfl
  go_wp2_with fail
  rw [← hW5]
  refine CL.out.mono ?_
  rintro e w6 ⟨rfl, hs6⟩
  obtain ⟨LL, hLL⟩ : ∃ x, x = nfree M1.R M1.n := ⟨_, rfl⟩
  rw [← hLL]
  have HLL := Lib.hid hLL
  obtain ⟨hM5, hs5, F5⟩ := HJ.out
  obtain ⟨hn1, hn9⟩ := HN.out
  obtain ⟨hs03, hI, he4, hwf, hsz03⟩ := HI.out
  obtain ⟨M2, T2, g2, u2, hnext⟩ := grows_law hI he4 hn1 hn9
  have hM6 := hM5.same0 hs6
  have F6 := F5.same hs6 (by simp)
  have k0 := F6.c0
  have k1 := F6.c1
  have k2 := F6.c2
  have k3 := F6.c3
  have k4 := F6.c4
  have C := grow_any hM6 ⟨0, 0, e0, 0, []⟩ (.slice none 0 0) (World.ownsRow_nil _ _ _ _) ⟨by simp, by simp, by simp, by simp [Spc.end_]; omega, by simp⟩ n (by constructor <;> omega)
  rw [g2] at C
  simp only [Spc.val, Spc.end_, Int.zero_add, Int.add_zero] at C
  have C := Lib.hid C
  have HG := Lib.hid (And.intro u2 hnext)
  have HS6 := Lib.hid (hs5.trans (hs6.mono (fun _ _ h => h.elim)))
  clear hLL CL HJ hW5 hM5 hs5 F5 F6 hM6 hs6 hn1 hn9 hs03 hI he4 hwf g2 u2 hnext hsz03
  go_wp2_with fail
  refine C.out.mono ?_
  rintro e w7 ⟨hM7, hs7, ⟨-, v2, rfl, hv2⟩ | ⟨h, -⟩⟩
  rotate_left
  · exact absurd rfl h
  obtain ⟨va, vn, vc, rfl⟩ := atto_slice hv2
  obtain ⟨W8, hW8⟩ : ∃ W, W = w7.alloc (.cells #[.int .i64 0, .int .i64 0, .int .i64 (e0 : Int), .int .i64 (n : Int), .slice va vn vc] 75) := ⟨_, rfl⟩
  obtain ⟨hn1, hn9⟩ := HN.out
  obtain ⟨hs03, hI, he4, hwf, hsz03⟩ := HI.out
  obtain ⟨u2, hnext⟩ := HG.out
  have hM8 : MemAt W8 f fb M2 := by rw [hW8]; exact hM7.same0 (same_alloc _)
  have hs8 : Same (· = fb) w3 W8 := by rw [hW8]; exact (HS6.out.trans hs7).trans ((same_alloc _).mono (fun _ _ h => h.elim))
  have F8 : Five W8 w7.heap.size (.int .i64 0) (.int .i64 0) (.int .i64 (e0 : Int)) (.int .i64 (n : Int)) (.slice va vn vc) := by rw [hW8]; exact five_new _ _ _ _ _ _
  have hv8 : AttO W8 (.slice va vn vc) [] := by rw [hW8]; exact hv2.same0 (same_alloc _)
  have hb8 : fb < w7.heap.size := by have := hM7.lt; omega
  have hfo2 : FramesOk M2 ((0 : Nat) : Int) := (u2.good.data u2.le1 (a := (0, T2)) List.mem_cons_self).ok
  have C1 := Lib.hid (in_c hM8 0 (64 * (e0 : Int)) (64 * (n : Int)) (by constructor <;> omega) (by constructor <;> omega) hfo2)
  have HK := Lib.hid (And.intro hM8 (And.intro hs8 (And.intro F8 (And.intro hv8 hb8))))
  have hE1 : 0 ≤ (e0 : Int) := by omega
  have hE2 : (e0 : Int) ≤ 4 := by omega
  have hE3 : (n : Int) ≤ 20 := by omega
  have hE4 : 0 ≤ (n : Int) := by omega
  clear C HS6 hM7 hs7 hv2 hn1 hn9 hs03 hI he4 hwf u2 hnext hM8 hs8 F8 hv8 hb8 hfo2 k0 k1 k2 k3 k4 hsz03
  go_wp2_with fail
  rw [← hW8]
  refine C1.out.mono ?_
  rintro e w9 ⟨er, b, rfl, r1, hs9⟩
  obtain ⟨hn1, hn9⟩ := HN.out
  obtain ⟨hs03, hI, he4, hwf, hsz03⟩ := HI.out
  obtain ⟨u2, hnext⟩ := HG.out
  obtain ⟨hM8, hs8, F8, hv8, hb8⟩ := HK.out
  obtain ⟨rfl, rfl⟩ := u2.zero he4 hn9 r1
  have hM9 := hM8.same0 hs9
  have F9 := F8.same hs9 (by simp)
  have hfs9 := hM9.sh
  have hv9 := hv8.same0 hs9
  have k0 := F9.c0
  obtain ⟨cu2, hU2⟩ := u2.good.tree.tree
  have hD2 : M2.Data 0 T2 := u2.good.data u2.le1 (a := (0, T2)) List.mem_cons_self
  have C2 := out_c hM9 hU2 hD2 (64 * (e0 : Int)) usedS (by constructor <;> omega) (by decide)
  rw [show ((0 : Nat) : Int) = 0 from rfl] at C2
  have C2 := Lib.hid C2
  have HK := Lib.hid (And.intro (hs8.trans (hs9.mono (T := (· = fb)) (fun _ _ h => h.elim))) (And.intro F9 (And.intro hv9 (And.intro hb8 hfs9))))
  clear C1 hn1 hn9 hs03 hI he4 hwf u2 hnext hM8 hs8 F8 hv8 hb8 r1 hs9 hM9 F9 hv9 hfs9 hU2 hD2 hW8 hsz03
  go_wp2_with fail
  refine C2.out.mono ?_
  rintro e w10 ⟨eo, M3, rfl, r2, hM10, r3, hs10⟩
  obtain ⟨hn1, hn9⟩ := HN.out
  obtain ⟨hs03, hI, he4, hwf, hsz03⟩ := HI.out
  obtain ⟨u2, hnext⟩ := HG.out
  obtain ⟨hs9, F9, hv9, hb8, hfs9⟩ := HK.out
  obtain rfl := u2.chk he4 hn1 r2
  obtain ⟨-, -, ho⟩ := r3.resolve_left (fun h => h.1 rfl)
  rw [show (64 * (e0 : Int)).toNat = 64 * e0 by omega] at ho
  obtain ⟨M4, M5, M6, T5, g4, g5, u5, g6, hleft⟩ := hnext M3 usedS ho
  have F10 := F9.same hs10 (by omega)
  have hv10 : AttO w10 (.slice va vn vc) [] := hv9.same hs10 (fun x hx m e => by subst hx; obtain ⟨y, hy⟩ := hfs9; rw [hy] at e; cases e)
  have C3 := grow_any hM10 ⟨0, 0, e0, n, []⟩ (.slice va vn vc) hv10 ⟨by simp, by simp, by simp, by simp [Spc.end_]; omega, by simp⟩ (-(n : Int)) (by constructor <;> omega)
  rw [g4] at C3
  simp only [Spc.val, Spc.end_, Int.zero_add, Int.add_zero, Int.add_right_neg] at C3
  have C3 := Lib.hid C3
  have k0 := F10.c0
  have k1 := F10.c1
  have k2 := F10.c2
  have k3 := F10.c3
  have k4 := F10.c4
  have HK := Lib.hid (And.intro (hs9.trans hs10) (And.intro F10 hb8))
  have HG := Lib.hid (And.intro g5 (And.intro u5 (And.intro g6 hleft)))
  clear C2 hn1 hn9 hs03 hI he4 hwf u2 hnext hs9 F9 hv9 hb8 r2 hM10 r3 hs10 ho F10 hfs9 hv10 g4 g5 u5 g6 hleft hsz03
  go_wp2_with fail
  refine C3.out.mono ?_
  rintro e w11 ⟨hM11, hs11, ⟨-, v3, rfl, hv3⟩ | ⟨h, -⟩⟩
  rotate_left
  · exact absurd rfl h
  obtain ⟨ua, un, uc, rfl⟩ := atto_slice hv3
  obtain ⟨hn1, hn9⟩ := HN.out
  obtain ⟨hs03, hI, he4, hwf, hsz03⟩ := HI.out
  obtain ⟨g5, u5, g6, hleft⟩ := HG.out
  obtain ⟨hs10, F10, hb8⟩ := HK.out
  obtain ⟨W12, hW12⟩ : ∃ W, W = w11.alloc (.cells #[.int .i64 0, .int .i64 0, .int .i64 (e0 : Int), .int .i64 0, .slice ua un uc] 75) := ⟨_, rfl⟩
  have hM12 : MemAt W12 f fb M4 := by rw [hW12]; exact hM11.same0 (same_alloc _)
  have hs12 : Same (· = fb) w3 W12 := by rw [hW12]; exact (hs10.trans hs11).trans ((same_alloc _).mono (fun _ _ h => h.elim))
  have F12 : Five W12 w11.heap.size (.int .i64 0) (.int .i64 0) (.int .i64 (e0 : Int)) (.int .i64 0) (.slice ua un uc) := by rw [hW12]; exact five_new _ _ _ _ _ _
  have G12 : Five W12 w7.heap.size (.int .i64 0) (.int .i64 0) (.int .i64 (e0 : Int)) (.int .i64 (n : Int)) (.slice va vn vc) := by rw [hW12]; exact (F10.same hs11 (by omega)).same (same_alloc _) (by simp)
  have hv12 : AttO W12 (.slice ua un uc) [] := by rw [hW12]; exact hv3.same0 (same_alloc _)
  have hb12 : fb < w11.heap.size := by have := hM11.lt; omega
  have C4 := grow_any hM12 ⟨0, 0, e0, 0, []⟩ (.slice ua un uc) hv12 ⟨by simp, by simp, by simp, by simp [Spc.end_]; omega, by simp⟩ (n : Int) (by constructor <;> omega)
  rw [g5] at C4
  simp only [Spc.val, Spc.end_, Int.zero_add, Int.add_zero] at C4
  have C4 := Lib.hid C4
  have HK := Lib.hid (And.intro hs12 (And.intro F12 (And.intro G12 (And.intro hb8 hb12))))
  clear C3 hM11 hs11 hv3 hn1 hn9 hs03 hI he4 hwf g5 u5 g6 hleft hs10 F10 hb8 hM12 hs12 F12 G12 hv12 hb12 k0 k1 k2 k3 k4 hsz03
  go_wp2_with fail
  rw [← hW12]
  refine C4.out.mono ?_
  rintro e w13 ⟨hM13, hs13, ⟨-, v4, rfl, hv4⟩ | ⟨h, -⟩⟩
  rotate_left
  · exact absurd rfl h
  obtain ⟨ta, tn, tc, rfl⟩ := atto_slice hv4
  obtain ⟨hn1, hn9⟩ := HN.out
  obtain ⟨hs03, hI, he4, hwf, hsz03⟩ := HI.out
  obtain ⟨g5, u5, g6, hleft⟩ := HG.out
  obtain ⟨hs12, F12, G12, hb8, hb12⟩ := HK.out
  obtain ⟨W14, hW14⟩ : ∃ W, W = w13.alloc (.cells #[.int .i64 0, .int .i64 0, .int .i64 (e0 : Int), .int .i64 (n : Int), .slice ta tn tc] 75) := ⟨_, rfl⟩
  have hM14 : MemAt W14 f fb M5 := by rw [hW14]; exact hM13.same0 (same_alloc _)
  have hs14 : Same (· = fb) w3 W14 := by rw [hW14]; exact (hs12.trans hs13).trans ((same_alloc _).mono (fun _ _ h => h.elim))
  have E14 : Five W14 w13.heap.size (.int .i64 0) (.int .i64 0) (.int .i64 (e0 : Int)) (.int .i64 (n : Int)) (.slice ta tn tc) := by rw [hW14]; exact five_new _ _ _ _ _ _
  have F14 : Five W14 w11.heap.size (.int .i64 0) (.int .i64 0) (.int .i64 (e0 : Int)) (.int .i64 0) (.slice ua un uc) := by rw [hW14]; exact (F12.same hs13 (by omega)).same (same_alloc _) (by simp)
  have G14 : Five W14 w7.heap.size (.int .i64 0) (.int .i64 0) (.int .i64 (e0 : Int)) (.int .i64 (n : Int)) (.slice va vn vc) := by rw [hW14]; exact (G12.same hs13 (by omega)).same (same_alloc _) (by simp)
  have hv14 : AttO W14 (.slice ta tn tc) [] := by rw [hW14]; exact hv4.same0 (same_alloc _)
  have hb14 : fb < w13.heap.size := by have := hM13.lt; omega
  have hfo5 : FramesOk M5 ((0 : Nat) : Int) := (u5.good.data u5.le1 (a := (0, T5)) List.mem_cons_self).ok
  have C5 := Lib.hid (in_c hM14 0 (64 * (e0 : Int)) (64 * (n : Int)) (by constructor <;> omega) (by constructor <;> omega) hfo5)
  have HK := Lib.hid (And.intro hM14 (And.intro hs14 (And.intro E14 (And.intro F14 (And.intro G14 (And.intro hv14 (And.intro hb8 (And.intro hb12 hb14))))))))
  clear C4 hM13 hs13 hv4 hn1 hn9 hs03 hI he4 hwf g5 u5 g6 hleft hs12 F12 G12 hb8 hb12 hM14 hs14 E14 F14 G14 hv14 hb14 hfo5 hW12 hsz03
  go_wp2_with fail
  rw [← hW14]
  refine C5.out.mono ?_
  rintro e w15 ⟨er, b, rfl, r1, hs15⟩
  obtain ⟨hn1, hn9⟩ := HN.out
  obtain ⟨hs03, hI, he4, hwf, hsz03⟩ := HI.out
  obtain ⟨g5, u5, g6, hleft⟩ := HG.out
  obtain ⟨hM14, hs14, E14, F14, G14, hv14, hb8, hb12, hb14⟩ := HK.out
  obtain ⟨rfl, rfl⟩ := u5.zero he4 hn9 r1
  have hM15 := hM14.same0 hs15
  have E15 := E14.same hs15 (by simp)
  have F15 := F14.same hs15 (by simp)
  have G15 := G14.same hs15 (by simp)
  have hv15 := hv14.same0 hs15
  have C6 := grow_any hM15 ⟨0, 0, e0, n, []⟩ (.slice ta tn tc) hv15 ⟨by simp, by simp, by simp, by simp [Spc.end_]; omega, by simp⟩ (-(n : Int)) (by constructor <;> omega)
  rw [g6] at C6
  simp only [Spc.val, Spc.end_, Int.zero_add, Int.add_zero, Int.add_right_neg] at C6
  have C6 := Lib.hid C6
  have k0 := E15.c0
  have k1 := E15.c1
  have k2 := E15.c2
  have k3 := E15.c3
  have k4 := E15.c4
  have HK := Lib.hid (And.intro (hs14.trans (hs15.mono (T := (· = fb)) (fun _ _ h => h.elim))) (And.intro F15 (And.intro G15 (And.intro hb8 hb12))))
  clear C5 hn1 hn9 hs03 hI he4 hwf g5 u5 g6 hleft hM14 hs14 E14 F14 G14 hv14 hb8 hb12 hb14 r1 hs15 hM15 E15 F15 G15 hv15 hW14 hsz03
  go_wp2_with fail
  refine C6.out.mono ?_
  rintro e w16 ⟨hM16, hs16, ⟨-, v5, rfl, hv5⟩ | ⟨h, -⟩⟩
  rotate_left
  · exact absurd rfl h
  obtain ⟨xa, xn, xc, rfl⟩ := atto_slice hv5
  obtain ⟨hn1, hn9⟩ := HN.out
  obtain ⟨hs03, hI, he4, hwf, hsz03⟩ := HI.out
  obtain ⟨-, -, -, hleft⟩ := HG.out
  obtain ⟨hs15, F15, G15, hb8, hb12⟩ := HK.out
  obtain ⟨W17, hW17⟩ : ∃ W, W = w16.alloc (.cells #[.int .i64 0, .int .i64 0, .int .i64 (e0 : Int), .int .i64 0, .slice xa xn xc] 75) := ⟨_, rfl⟩
  obtain ⟨N, hN⟩ : ∃ N : Nat, N = 64 * n := ⟨_, rfl⟩
  have hmk := makeN W17 N (by omega)
  have hcv := convN (W17.alloc (.cells (zcN N) 5)) W17.heap.size N (fun j hj => madeN_cell W17 N j hj)
  have hNi : 64 * (n : Int) = (N : Int) := by omega
  have s1 := same_alloc (W := w16) (.cells #[.int .i64 0, .int .i64 0, .int .i64 (e0 : Int), .int .i64 0, .slice xa xn xc] 75)
  rw [← hW17] at s1
  have s2 := same_alloc (W := W17) (.cells (zcN N) 5)
  have hf17 : Five W17 w16.heap.size (.int .i64 0) (.int .i64 0) (.int .i64 (e0 : Int)) (.int .i64 0) (.slice xa xn xc) := by rw [hW17]; exact five_new _ _ _ _ _ _
  have m5 := (hf17.same s2 (by simp)).c3
  have m3 := (((F15.same hs16 (by omega)).same s1 (by simp)).same s2 (by simp)).c3
  have m2 := (((G15.same hs16 (by omega)).same s1 (by simp)).same s2 (by simp)).c3
  have hl := left_any ((hM16.same0 s1).same0 s2)
  rw [hleft, ← HLL.out] at hl
  have hend : Same (fun _ => False) w (W17.alloc (.cells (zcN N) 5)) := hs03.trans' (((hs15.trans hs16).trans (s1.mono (T := (· = fb)) (fun _ _ h => h.elim))).trans (s2.mono (T := (· = fb)) (fun _ _ h => h.elim))) (fun b hb hlt => by omega)
  have hsz17 : W17.heap.size = w16.heap.size + 1 := by rw [hW17]; simp
  rw [hsz17] at hmk hcv
  clear hsz17
  rw [hW17] at hmk hcv m5 m3 m2 hl hend
  have HE := Lib.hid hend
  have HNi := Lib.hid hNi
  clear C6 hM16 hs16 hv5 hn1 hn9 hs03 hI he4 hwf hleft hs15 F15 G15 hb8 hb12 hsz03 s1 s2 hf17 hend k0 k1 k2 k3 k4
  rw [show zeroS (64 * n) = zeroS N by rw [hN]]
  clear hN
  have hl := Lib.hid hl
  have q1 : (64 * ((e0 : Int) + (n : Int)) == 64 * (e0 : Int) + (N : Int)) = true := by simp only [beq_iff_eq]; omega
  go_wp2_with fail
  refine hl.out.mono ?_
  rintro e w18 ⟨rfl, hs18⟩
  go_wp2
  all_goals
    go_ret
    exact ⟨rfl, HE.out.trans hs18⟩
end Go.Proofs.Ytlbgnmcjdmdjpaa
