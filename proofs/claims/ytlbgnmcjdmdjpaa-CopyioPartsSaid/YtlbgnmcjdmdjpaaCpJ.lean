/- copyio.Spans; the statements' own shown. Conditions: bounds. -/
import Derived.Test.YtlbgnmcjdmdjpaaCpI
import Derived.Test.YtlbgnmcjdmdjpaaCpG
namespace Go.Proofs.Ytlbgnmcjdmdjpaa
open Go.RowKit Go.Shelf
attribute [local go_sem] Oper.semAt_some

/-- How many pages a span touches. -/
def spn (a n : Nat) : Nat := if n = 0 then 0 else (a + n - 1) / 64 - a / 64 + 1
theorem spn_step {a n : Nat} (h : 0 < n) : spn a n = spn (a + pk a n) (n - pk a n) + 1 := by
  unfold spn pk
  rw [if_neg (by omega)]
  by_cases hn : n ≤ 64 - a % 64
  · rw [show min n (64 - a % 64) = n by omega, Nat.sub_self, if_pos rfl]
    omega
  · rw [show min n (64 - a % 64) = 64 - a % 64 by omega, if_neg (by omega)]
    omega

set_option maxHeartbeats 3200000 in
set_option maxRecDepth 8192 in
theorem spans_any (w : World) (a0 n0 : Nat) (ha : a0 ≤ 16384) (hn : n0 ≤ 4096) :
    Calls Try.prog 75 #[.int .i64 a0, .int .i64 n0] w fun e w' => e = .returned (.int .i64 (spn a0 n0)) ∧ Same (fun _ => False) w w' := by
  have h1 : decide ((a0 : Int) ≤ 16384) = true := by simp; omega
  have h2 : decide ((n0 : Int) ≤ 4096) = true := by simp; omega
  refine (callsIn_wide (n := 0)).1 ?_
  refine callsIn_of_wp_marks Try.func75 rfl trivial ?_ rfl
  simp only [Try.ntmps75, List.size_toArray, List.length_cons, List.length_nil, Nat.reduceAdd, Nat.reduceSub, Array.replicate_succ, Array.replicate_zero, List.push_toArray, List.append_toArray, List.nil_append, List.cons_append]
  gi_wp2_with (gi_at_call 107; refine CallsIn.mono (callsIn_wide.2 (parts_any _ _ _)) ?_; rintro e w' ⟨rfl, rfl⟩)
  refine range_wide2 (gf := 120) (lb := #[.pointer (some ⟨w.heap.size + 1 + 1, 0, none⟩), .pointer (some ⟨w.heap.size + 1, 0, none⟩)]) rfl (enters_of Try.func120 (by kernel_rfl) rfl) ?_
  intro rec D L W1 hD hL hrule hs1 hl1 hd1 hrec
  simp only [World.size_alloc] at hD
  have c3 : W1.cell? ⟨w.heap.size, 0, none⟩ = some (.int .i64 0) := hs1.cell (by simp [go_sem]) (fun h => h)
  have c4 : W1.cell? ⟨w.heap.size + 1, 0, none⟩ = some (.int .i64 a0) := hs1.cell (by simp [go_sem]) (fun h => h)
  have c5 : W1.cell? ⟨w.heap.size + 1 + 1, 0, none⟩ = some (.int .i64 n0) := hs1.cell (by simp [go_sem]) (fun h => h)
  have z3 : W1.frozen? ⟨w.heap.size, 0, none⟩ = false := hs1.unfrozen (a := ⟨w.heap.size, 0, none⟩) (v := .int .i64 0) (by simp [go_sem]) (by simp [go_sem]) (fun h => h)
  have z4 : W1.frozen? ⟨w.heap.size + 1, 0, none⟩ = false := hs1.unfrozen (a := ⟨w.heap.size + 1, 0, none⟩) (v := .int .i64 a0) (by simp [go_sem]) (by simp [go_sem]) (fun h => h)
  have z5 : W1.frozen? ⟨w.heap.size + 1 + 1, 0, none⟩ = false := hs1.unfrozen (a := ⟨w.heap.size + 1 + 1, 0, none⟩) (v := .int .i64 n0) (by simp [go_sem]) (by simp [go_sem]) (fun h => h)
  have hsw : Same (fun k => w.heap.size ≤ k) w W1 := ((((same_alloc _).alloc _).alloc _).trans hs1).mono (fun _ _ h => h.elim)
  clear hs1
  refine Calls.mono (parts1 L (w.heap.size + 1) (w.heap.size + 1 + 1) (by omega)
    (fun a n W => ∃ k : Nat, k + spn a n = spn a0 n0 ∧ k ≤ 20480 ∧ k ≤ a ∧ W.cell? ⟨w.heap.size, 0, none⟩ = some (.int .i64 k) ∧ W.frozen? ⟨w.heap.size, 0, none⟩ = false ∧ W.heap[L]? = some (rec .ready none) ∧ W.heap[D]? = some (.deferred (some [])) ∧ Same (fun k => w.heap.size ≤ k) w W)
    (fun W => False)
    ?_ ?_ W1 a0 n0 ⟨0, by omega, by omega, by omega, c3, z3, hl1, hd1, hsw⟩ ⟨c4, c5, z4, z5⟩ (by omega)) ?_
  · rintro a n W W' ⟨k, h1, h2, h2', h3, h4, h5, h6, h7⟩ hs
    exact ⟨k, h1, h2, h2', hs.cell h3 (by simp <;> omega), hs.unfrozen h3 h4 (by simp <;> omega), hs.block h5 (by omega), hs.block h6 (by omega), h7.trans (hs.mono (fun b _ h => by omega))⟩
  · rintro a n W hn hle2 hB ⟨k, h1, h2, h2', h3, h4, h5, h6, h7⟩
    have hA : Same (fun _ => False) W (W.alloc (.cells #[.int .i64 ((a : Int) / 64), .int .i64 ((a : Int) % 64), .int .i64 (pk a n)] 140)) := same_alloc _
    have hp2 : (W.alloc (.cells #[.int .i64 ((a : Int) / 64), .int .i64 ((a : Int) % 64), .int .i64 (pk a n)] 140)).cell? ⟨W.heap.size, 2, none⟩ = some (.int .i64 (pk a n)) := by simp
    obtain ⟨VA, hVA⟩ : ∃ VA, VA = W.alloc (.cells #[.int .i64 ((a : Int) / 64), .int .i64 ((a : Int) % 64), .int .i64 (pk a n)] 140) := ⟨_, rfl⟩
    have hszA : VA.heap.size = W.heap.size + 1 := by rw [hVA]; simp
    rw [← hVA] at hA hp2 ⊢
    have hl7 := hA.block h5 (fun h => h)
    have hWA : W.heap.size < VA.heap.size := by omega
    have hst := spn_step (a := a) hn
    obtain ⟨k1, k2, k3⟩ := pk_pos (a := a) hn
    have HST := Lib.hid hst
    have H1 := Lib.hid h1
    have hbl := hB.lt
    have hLW := (Array.getElem?_eq_some_iff.1 h5).1
    have HB := Lib.hid hB
    clear hVA hszA hst h1 hB
    refine hrule VA _ _ hl7 rfl ?_
    gi_wp2
    intro W2 hs2 hz2 hl2
    have hsA : Same (· = L) W W2 := (hA.mono (fun _ _ h => h.elim)).trans hs2
    have d3 := hsA.cell h3 (by simp <;> omega)
    have d4 := hsA.unfrozen h3 h4 (by simp <;> omega)
    have d6 := hsA.block h6 (by omega)
    have dp := hs2.cell hp2 (by simp <;> omega)
    have HB2 := Lib.hid (HB.out.same hsA (by omega) (by omega))
    have hs7 := h7.trans (hsA.mono (T := fun k => w.heap.size ≤ k) (fun b _ h => by omega))
    have hb3 := World.block_lt_of_cell? _ _ d3
    simp only at hb3
    clear hz2 h3 h4 h5 h6 h7 hp2 hl7 hA hsA
    gi_wp2
    obtain ⟨W7, hW7⟩ : ∃ W7, W7 = W2.setCell ⟨w.heap.size, 0, none⟩ (.int .i64 ((k : Int) + 1)) := ⟨_, rfl⟩
    have hs8 : Same (· = w.heap.size) W2 W7 := by rw [hW7]; exact (Same.refl _ _).setCell _ (.inr rfl)
    have g3 : W7.cell? ⟨w.heap.size, 0, none⟩ = some (.int .i64 ((k + 1 : Nat) : Int)) := by rw [hW7]; exact World.cell?_setCell_same _ _ _ d3
    have g4 : W7.frozen? ⟨w.heap.size, 0, none⟩ = false := by rw [hW7]; simpa using d4
    rw [← hW7]
    refine ⟨hs8.block hl2 (by omega), fun W8 hs9 _ hl8 => ⟨rfl, (HB2.out.same hs8 (by omega) (by omega)).same hs9 (by omega) (by omega), ⟨k + 1, by have := H1.out; have := HST.out; omega, by omega, by omega, hs9.cell g3 (by simp <;> omega), hs9.unfrozen g3 g4 (by simp <;> omega), hl8, hs9.block (hs8.block d6 (by omega)) (by omega), (hs7.trans (hs8.mono (fun b _ h => by omega))).trans (hs9.mono (fun b _ h => by omega))⟩, hs9.cell (hs8.cell dp (by simp <;> omega)) (by simp <;> omega)⟩⟩
  · rintro e W ⟨⟨v, rfl⟩, ⟨aE, k, h1, h2, h2', h3, h4, h5, h6, h7⟩ | h⟩
    · refine ⟨⟨_, rfl⟩, .inl ⟨h5, fun W2 hs2 _ => ?_⟩⟩
      have k5 := hs2.cell h3 (by simp <;> omega)
      have kD := hs2.block h6 (by omega)
      have hk : k = spn a0 n0 := by rw [← h1]; unfold spn; simp
      have HK := Lib.hid hk
      have hs8 : Same (fun k => w.heap.size ≤ k) w W2 := h7.trans (hs2.mono (fun b _ h => by omega))
      clear h1 hk
      gi_wp2
      refine leaves_mark kD fun W5 hs6 _ => ⟨results_tmp rfl _ _ _, by rw [← HK.out]; rfl, (hs8.trans (hs6.mono (fun b _ h => by omega))).mono (fun b hb h => by omega)⟩
    · exact h.elim

/-- Two pages, 0 and 1. -/
def g01 : Nat → Int := fun i => if i = 0 then 0 else 1
def m01 : Mm := laidN (fun i => (bits .and .i64 (g01 i) 255, decide (i < 0) && false)) 2
theorem m01_walk : m01.walk 0 0 = (1, 3, 0) ∧ m01.walk 0 1 = (3, 3, 0) ∧ m01.walk 0 2 = (0, 0, 30) ∧ m01.isUsed 0 = true := by decide +kernel

set_option maxHeartbeats 3200000 in
set_option maxRecDepth 8192 in
theorem shown3 (w : World) : Calls Try.prog 39 #[] w fun e w' => e = .returned (.bool true) ∧ Same (fun _ => False) w w' := by
  have hl := laid_any (w.alloc (.cells #[.int .i64 0, .int .i64 1] 3)) (some ⟨w.heap.size, 0, none⟩) 2 2 none 0 0 g01 (fun _ => false) (by omega) (by omega)
    (fun i hi => ⟨⟨w.heap.size, 0, none⟩, rfl, by
      match i, hi with
      | 0, _ => simp [g01, Addr.add]
      | 1, _ => simp [g01, Addr.add]⟩) (fun i hi => by omega)
  have hm : laidN (fun i => (bits .and .i64 (g01 i) 255, decide (i < 0) && (fun _ => false) i)) (min 2 30) = m01 := rfl
  rw [hm] at hl
  have HL := Lib.hid hl
  obtain ⟨p0, p1, p2, pu⟩ := m01_walk
  have HP0 := Lib.hid p0
  have HP1 := Lib.hid p1
  have HP2 := Lib.hid p2
  have HPU := Lib.hid pu
  generalize m01 = M at HL HP0 HP1 HP2 HPU
  clear hl hm p0 p1 p2 pu
  go_enter Try.func39, Try.ntmps39
  go_wp2_with fail
  refine HL.out.mono ?_
  rintro e w1 ⟨f, fb, r, rfl, hf, hfb, hM, hLd, hs1⟩
  obtain ⟨T, ht, hd⟩ := hLd.ex
  have HT := Lib.hid ht
  have HD := Lib.hid hd
  have hsw : Same (fun _ => False) w w1 := (same_alloc _).trans hs1
  have hszw := hsw.size
  simp only [World.size_alloc] at hf hfb
  clear ht hd hLd hs1 HL
  have ho := out_c hM HT.out HD.out 62 ⟨#[97, 98, 99, 100]⟩ (by constructor <;> decide) (by decide)
  have HO := Lib.hid ho
  clear ho
  go_wp2_with fail
  refine HO.out.mono ?_
  rintro e w2 ⟨er, M2, rfl, hcr, hM2, hor, hs2⟩
  have hck : ∀ wr i : Nat, i < 128 → M.okB 0 true i ∧ M.okB 0 false i := by
    intro _ i hi
    unfold Mm.okB
    have h0 := HP0.out
    have h1 := HP1.out
    have hc : ((i : Int) / 64) = 0 ∨ ((i : Int) / 64) = 1 := by omega
    rcases hc with e | e
    · rw [e, h0]; exact ⟨⟨rfl, fun _ => by decide⟩, rfl, fun h => by cases h⟩
    · rw [e, h1]; exact ⟨⟨rfl, fun _ => by decide⟩, rfl, fun h => by cases h⟩
  have her : er = 0 := by
    have hu := HPU.out
    rcases hcr with ⟨h, _⟩ | ⟨_, h, _⟩ | ⟨_, _, _, h, _⟩ | ⟨_, a, k, h1, h2, h3, h4, ⟨h5, _⟩ | ⟨_, i, h6, h7, h8⟩⟩
    · rw [show ((0 : Nat) : Int) = 0 from rfl, hu] at h; cases h
    · exfalso; simp [ByteArray.size] at h
    · exfalso; simp [ByteArray.size] at h
    · exact h5
    · exfalso
      simp [ByteArray.size] at h2
      exact h8 (hck 0 i (by omega)).1
  subst her
  have hout : OutR M M2 0 T 62 66 ⟨#[97, 98, 99, 100]⟩ := by
    rcases hor with ⟨h, _⟩ | ⟨_, _, h⟩
    · exact absurd rfl h
    · exact h
  have HOUT := Lib.hid hout
  have hwk2 : ∀ p : Int, M2.walk 0 p = M.walk 0 p := fun p => hout.tab.walk HT.out p
  have HW2 := Lib.hid @hwk2
  have hfo2 : FramesOk M2 0 := (HD.out.same hout.tab HT.out).ok
  have hu2 : M2.isUsed 0 = true := by
    have := (hout.tab.tree HT.out)
    exact Mm.isUsed_nat this.rn (by rw [this.rR]; decide)
  have HU2 := Lib.hid hu2
  have HI := Lib.hid (in_c hM2 0 63 2 (by constructor <;> decide) (by constructor <;> decide) hfo2)
  have hs3 : Same (fun k => w.heap.size ≤ k) w w2 := (hsw.mono (fun _ _ h => h.elim)).trans (hs2.mono (fun b _ h => by omega))
  clear hcr hor hout hwk2 hfo2 hs2 hu2
  go_wp2_with fail
  refine HI.out.mono ?_
  rintro e w3 ⟨er, s, rfl, ⟨hcr, hin⟩, hs4⟩
  have hck2 : ∀ i : Nat, i < 128 → M2.okB 0 false i := by
    intro i hi
    have := (hck 0 i hi).2
    unfold Mm.okB at this ⊢
    rw [HW2.out]; exact this
  have her : er = 0 := by
    rcases hcr with ⟨h, _⟩ | ⟨_, h, _⟩ | ⟨_, _, _, h, _⟩ | ⟨_, a, k, h1, h2, h3, h4, ⟨h5, _⟩ | ⟨_, i, h6, h7, h8⟩⟩
    · rw [HU2.out] at h; cases h
    · omega
    · omega
    · exact h5
    · exact absurd (hck2 i (by omega)) h8
  subst her
  have hsv : s = ⟨#[98, 99]⟩ := by
    rcases hin with ⟨h, _⟩ | ⟨_, h⟩
    · exact absurd rfl h
    · rw [h]
      have w0 := HP0.out
      have w1 := HP1.out
      have v63 := HOUT.out.vb 63 (by rw [show (((63 : Nat) : Int) / 64) = 0 from rfl]; rw [show ((0 : Nat) : Int) = 0 from rfl, w0])
      have v64 := HOUT.out.vb 64 (by rw [show (((64 : Nat) : Int) / 64) = 1 from rfl]; rw [show ((0 : Nat) : Int) = 0 from rfl, w1])
      rw [if_pos (by omega)] at v63 v64
      unfold Mm.vstr Mm.vs
      show (⟨[M2.vb 0 63, M2.vb 0 64].toArray⟩ : ByteArray) = _
      rw [show ((0 : Nat) : Int) = 0 from rfl] at v63 v64
      rw [v63, v64]
      rfl
  subst hsv
  have HC := Lib.hid (check_c (hM2.same0 hs4) 0 127 2 false (by constructor <;> decide) (by constructor <;> decide))
  have hs5 := hs3.trans (hs4.mono (fun _ _ h => h.elim))
  clear hcr hin hs3 hs4 hck2
  go_wp2_with fail
  refine HC.out.mono ?_
  rintro e w4 ⟨er, rfl, hcr, hs6⟩
  have her : er = 30 := by
    rcases hcr with ⟨h, _⟩ | ⟨_, h, _⟩ | ⟨_, _, _, h, _⟩ | ⟨_, a, k, h1, h2, h3, h4, ⟨_, h5⟩ | ⟨h5, _⟩⟩
    · rw [HU2.out] at h; cases h
    · omega
    · omega
    · have hk := h5 128 (by omega) (by omega)
      unfold Mm.okB at hk
      rw [show (((128 : Nat) : Int) / 64) = 2 from rfl, HW2.out, HP2.out] at hk
      exact absurd hk.1 (by decide)
    · exact h5
  subst her
  have hs7 := hs5.trans (hs6.mono (fun _ _ h => h.elim))
  have HS := Lib.hid (spans_any w4 62 4 (by omega) (by omega))
  clear hcr hs5 hs6 hM hM2 hck
  go_wp2_with fail
  refine HS.out.mono ?_
  rintro e w5 ⟨rfl, hs8⟩
  have hsp : ((spn 62 4 : Nat) : Int) = 2 := by decide
  rw [hsp]
  have hs9 : Same (fun _ => False) w w5 := (hs7.trans (hs8.mono (fun _ _ h => h.elim))).mono (fun k h h' => by omega)
  clear hs7 hs8 hsp
  go_wp2
  go_ret
  exact ⟨rfl, hs9⟩
end Go.Proofs.Ytlbgnmcjdmdjpaa
