/- copyio.Check. Conditions: the memory's form. -/
import Derived.Test.YtlbgnmcjdmdjpaaCpB
namespace Go.Proofs.Ytlbgnmcjdmdjpaa
open Go.RowKit Go.Shelf
attribute [local go_sem] Oper.semAt_some

set_option maxHeartbeats 1600000 in
theorem clo81 (w : World) (pg at_ k fr fl : Int) (bx : Nat) (wr : Bool) (hc : w.cell? ⟨bx, 0, none⟩ = some (.bool wr)) (hk : 0 < k) :
    Calls Try.prog 81 #[.agg #[.int .i64 pg, .int .i64 at_, .int .i64 k], .int .i64 fr, .int .i64 fl, .pointer (some ⟨bx, 0, none⟩)] w fun e w' =>
      e = .returned (.int .i64 (if wr = true ∧ bits .and .i64 fl 2 = 0 then 30 else 0)) ∧ Same (fun _ => False) w w' := by
  have hlt := World.block_lt_of_cell? _ _ hc
  simp only at hlt
  have hkb : (k == 0) = false := by simp; omega
  obtain ⟨b, hb⟩ : ∃ b, b = bits .and .i64 fl 2 := ⟨_, rfl⟩
  have hs : Same (fun _ => False) w ((w.alloc (.cells #[.int .i64 pg, .int .i64 at_, .int .i64 k] 140)).alloc (.cells #[.int .i64 0, .int .i64 0, .int .i64 0] 140)) := (same_alloc _).alloc _
  cases wr with
  | false =>
    simp only [Bool.false_eq_true, false_and, if_false]
    clear hb
    go_enter Try.func81, Try.ntmps81
    go_wp2
    go_ret
    exact ⟨rfl, hs⟩
  | true =>
    rw [← hb]
    simp only [true_and]
    by_cases hz : b = 0
    · rw [if_pos hz]
      have hb2 : bits .and .i64 fl 2 = 0 := by rw [← hb]; exact hz
      clear hb hz
      go_enter Try.func81, Try.ntmps81
      go_wp2
      go_ret
      exact ⟨rfl, hs⟩
    · rw [if_neg hz]
      have hb2 : (bits .and .i64 fl 2 == 0) = false := by rw [← hb]; simpa using hz
      clear hb hz
      go_enter Try.func81, Try.ntmps81
      go_wp2
      go_ret
      exact ⟨rfl, hs⟩

/-- May a byte's page be read, or written? -/
def Mm.okB (M : Mm) (root : Int) (wr : Bool) (i : Nat) : Prop := (M.walk root ((i : Int) / 64)).2.2 = 0 ∧ (wr = true → bits .and .i64 (M.walk root ((i : Int) / 64)).2.1 2 ≠ 0)
theorem Mm.okB_page {M : Mm} {root : Int} {wr : Bool} {a i : Nat} (h : i / 64 = a / 64) : M.okB root wr i ↔ M.okB root wr a := by
  unfold Mm.okB
  rw [show ((i : Int) / 64) = ((a : Int) / 64) by omega]
/-- What Check tells. -/
def ChkR (M : Mm) (root addr n : Int) (wr : Bool) (er : Int) : Prop :=
  (M.isUsed root = false ∧ er = 10) ∨
  (M.isUsed root = true ∧ (n < 0 ∨ 4096 < n) ∧ er = 2) ∨
  (M.isUsed root = true ∧ 0 ≤ n ∧ n ≤ 4096 ∧ (addr < 0 ∨ 16384 < addr ∨ 16384 < addr + n) ∧ er = 30) ∨
  (M.isUsed root = true ∧ ∃ a k : Nat, addr = a ∧ n = k ∧ k ≤ 4096 ∧ a + k ≤ 16384 ∧ ((er = 0 ∧ ∀ i, a ≤ i → i < a + k → M.okB root wr i) ∨ (er = 30 ∧ ∃ i, a ≤ i ∧ i < a + k ∧ ¬ M.okB root wr i)))

theorem check_span {w : World} {f fb : Nat} {M : Mm} (hM : MemAt w f fb M) (root : Int) (a0 n0 : Nat) (hle : a0 + n0 ≤ 16384) (bx : Nat) (wr : Bool) (hc : w.cell? ⟨bx, 0, none⟩ = some (.bool wr)) :
    Calls Try.prog 76 #[.pointer (some ⟨f, 0, none⟩), .int .i64 root, .int .i64 a0, .int .i64 n0, .func (.func 81) #[] #[.pointer (some ⟨bx, 0, none⟩)]] w fun e W =>
      ∃ er, e = .returned (.int .i64 er) ∧ ((er = 0 ∧ ∀ i, a0 ≤ i → i < a0 + n0 → M.okB root wr i) ∨ (er = 30 ∧ ∃ i, a0 ≤ i ∧ i < a0 + n0 ∧ ¬ M.okB root wr i)) ∧ Same (fun _ => False) w W := by
  have hlt := hM.lt
  have hbx := World.block_lt_of_cell? _ _ hc
  simp only at hbx
  refine (each_any w f fb root a0 n0 M (by omega) 81 #[.pointer (some ⟨bx, 0, none⟩)] (enters_of Try.func81 (by kernel_rfl) rfl)
    (fun hi a n M' W => M' = M ∧ MemAt W f fb M ∧ a0 ≤ a ∧ a + n = a0 + n0 ∧ (∀ i, a0 ≤ i → i < a → M.okB root wr i) ∧ W.cell? ⟨bx, 0, none⟩ = some (.bool wr) ∧ Same (fun _ => False) w W)
    (fun hi er W => er = 30 ∧ (∃ i, a0 ≤ i ∧ i < a0 + n0 ∧ ¬ M.okB root wr i) ∧ Same (fun _ => False) w W) ?_ ?_ ?_ ?_ ?_ ?_).mono ?_
  · rintro hi a n M' W ⟨rfl, h1, _⟩
    exact h1
  · rintro hi a n M' W W' ⟨rfl, h1, h2, h3, h4, h5, h6⟩ hs
    exact ⟨rfl, h1.same hs (by omega) (by omega), h2, h3, h4, hs.cell h5 (by simp; omega), h6.trans' hs (fun k hk hkw => by omega)⟩
  · rintro hi er W W' ⟨h1, h2, h3⟩ hs
    exact ⟨h1, h2, h3.trans' hs (fun k hk hkw => by omega)⟩
  · rintro hi a n M' W hn ⟨rfl, h1, h2, h3, h4, h5, h6⟩ hw
    exact ⟨rfl, ⟨a, h2, by omega, fun hok => hw hok.1⟩, h6⟩
  · rintro hi a n M' W0 W hn hle2 ⟨rfl, h1, h2, h3, h4, h5, h6⟩ hhi hs hw
    obtain ⟨k1, k2, k3⟩ := pk_pos (a := a) hn
    have h5' := hs.cell h5 (by simp; omega)
    have h6' : Same (fun _ => False) w W := h6.trans' hs (fun k hk hkw => by omega)
    have h1' := h1.same hs (by omega) (by omega)
    refine (clo81 W _ _ _ _ _ bx wr h5' (by omega)).mono ?_
    rintro e W' ⟨rfl, hs2⟩
    refine ⟨?_, hs2.mono (fun _ _ h => h.elim)⟩
    by_cases hz : wr = true ∧ bits .and .i64 (M'.walk root ((a : Int) / 64)).2.1 2 = 0
    · right
      rw [if_pos hz]
      exact ⟨30, by decide, rfl, rfl, ⟨a, h2, by omega, fun hok => hok.2 hz.1 hz.2⟩, h6'.trans hs2⟩
    · left
      rw [if_neg hz]
      refine ⟨rfl, M', rfl, h1'.same0 hs2, by omega, by omega, ?_, hs2.cell h5' (by simp), h6'.trans hs2⟩
      intro i hi1 hi2
      rcases Nat.lt_or_ge i a with h | h
      · exact h4 i hi1 h
      · rw [Mm.okB_page (show i / 64 = a / 64 by omega)]
        refine ⟨hw, fun hwr hb => hz ⟨hwr, hb⟩⟩
  · intro W1 hs
    exact ⟨rfl, hM.same0 hs, Nat.le_refl _, rfl, fun i h1 h2 => by omega, hs.cell hc (by simp), hs⟩
  · rintro e W (⟨rfl, hi, a, M', rfl, h1, h2, h3, h4, h5, h6⟩ | ⟨er, hi, her, rfl, h1, h2, h3⟩)
    · exact ⟨0, rfl, .inl ⟨rfl, fun i hi1 hi2 => h4 i hi1 (by omega)⟩, h6⟩
    · exact ⟨er, rfl, .inr ⟨h1, h2⟩, h3⟩

theorem check_nil_c (w : World) (root addr n : Int) (wr : Bool) : Calls Try.prog 44 #[.pointer none, .int .i64 root, .int .i64 addr, .int .i64 n, .bool wr] w fun e w' => e = .returned (.int .i64 1) ∧ Same (fun _ => False) w w' := by
  go_enter Try.func44, Try.ntmps44
  go_wp2
  go_ret
  exact ⟨rfl, same_alloc _⟩

set_option maxHeartbeats 3200000 in
set_option maxRecDepth 8192 in
theorem check_c {w : World} {f fb : Nat} {M : Mm} (hM : MemAt w f fb M) (root addr n : Int) (wr : Bool) (ha : In64 addr) (hn : In64 n) :
    Calls Try.prog 44 #[.pointer (some ⟨f, 0, none⟩), .int .i64 root, .int .i64 addr, .int .i64 n, .bool wr] w fun e w' => ∃ er, e = .returned (.int .i64 er) ∧ ChkR M root addr n wr er ∧ Same (fun _ => False) w w' := by
  have hM1 := hM.same0 (same_alloc (.cells #[.bool wr] 4))
  have hrf := refs_any hM1 root
  have hz := M.refs_zero root
  cases hu : M.isUsed root with
  | false =>
    have hr : (M.refs root == 0) = true := by rw [beq_iff_eq]; exact hz.2 hu
    have HU := Lib.hid hu
    clear hz hu
    go_enter Try.func44, Try.ntmps44
    go_wp2_with fail
    refine hrf.mono ?_
    rintro e w1 ⟨rfl, hs1⟩
    go_wp2
    go_ret
    exact ⟨10, rfl, .inl ⟨HU.out, rfl⟩, (same_alloc _).trans hs1⟩
  | true =>
    have hr : (M.refs root == 0) = false := by
      rw [beq_eq_false_iff_ne]; intro h0; have := hz.1 h0; rw [hu] at this; cases this
    have HU := Lib.hid hu
    clear hz hu
    by_cases hna : n < 0 ∨ 4096 < n
    · have hb : (decide (n < 0) || decide (4096 < n)) = true := by simpa using hna
      have HNA := Lib.hid hna
      clear hna
      go_enter Try.func44, Try.ntmps44
      go_wp2_with fail
      refine hrf.mono ?_
      rintro e w1 ⟨rfl, hs1⟩
      go_wp2
      all_goals
        go_ret
        exact ⟨2, rfl, .inr (.inl ⟨HU.out, HNA.out, rfl⟩), (same_alloc _).trans hs1⟩
    · have hb : (decide (n < 0) || decide (4096 < n)) = false := by simp; omega
      have hn0 : 0 ≤ n := by omega
      have hn1 : n ≤ 4096 := by omega
      by_cases haa : addr < 0 ∨ 16384 < addr
      · have hb2 : (decide (addr < 0) || decide (16384 < addr)) = true := by simpa using haa
        have HAA := Lib.hid haa
        clear haa hna
        go_enter Try.func44, Try.ntmps44
        go_wp2_with fail
        refine hrf.mono ?_
        rintro e w1 ⟨rfl, hs1⟩
        go_wp2
        all_goals
          go_ret
          exact ⟨30, rfl, .inr (.inr (.inl ⟨HU.out, hn0, hn1, by have := HAA.out; omega, rfl⟩)), (same_alloc _).trans hs1⟩
      · have hb2 : (decide (addr < 0) || decide (16384 < addr)) = false := by simp; omega
        by_cases hsp : 16384 - addr < n
        · have hb3 : decide (16384 - addr < n) = true := by simpa using hsp
          have HSP := Lib.hid hsp
          have HAA := Lib.hid haa
          clear haa hna hsp
          go_enter Try.func44, Try.ntmps44
          go_wp2_with fail
          refine hrf.mono ?_
          rintro e w1 ⟨rfl, hs1⟩
          go_wp2
          all_goals
            go_ret
            exact ⟨30, rfl, .inr (.inr (.inl ⟨HU.out, hn0, hn1, by have := HSP.out; omega, rfl⟩)), (same_alloc _).trans hs1⟩
        · have hb3 : decide (16384 - addr < n) = false := by simp; omega
          obtain ⟨k, rfl⟩ := Int.eq_ofNat_of_zero_le hn0
          obtain ⟨a, rfl⟩ := Int.eq_ofNat_of_zero_le (show 0 ≤ addr by omega)
          have hle : a + k ≤ 16384 := by omega
          clear haa hna hsp
          go_enter Try.func44, Try.ntmps44
          go_wp2_with fail
          refine hrf.mono ?_
          rintro e w1 ⟨rfl, hs1⟩
          have hcb := hs1.cell (a := ⟨w.heap.size, 0, none⟩) (v := .bool wr) (by simp) (by simp)
          go_wp2_with fail
          refine (check_span (hM1.same0 hs1) root a k hle w.heap.size wr hcb).mono ?_
          rintro e w2 ⟨er, rfl, hcase, hs2⟩
          have HCASE := Lib.hid hcase
          clear hcase
          go_wp2
          go_ret
          exact ⟨er, rfl, .inr (.inr (.inr ⟨HU.out, a, k, rfl, rfl, by omega, hle, HCASE.out⟩)), ((same_alloc _).trans hs1).trans hs2⟩
end Go.Proofs.Ytlbgnmcjdmdjpaa
