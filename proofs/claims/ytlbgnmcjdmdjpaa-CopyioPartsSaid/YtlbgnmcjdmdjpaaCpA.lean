/- The parts of a span: the iterator. Conditions: bounds. -/
import Derived.Test.YtlbgnmcjdmdjpaaJn
import Derived.Test.YtlbgnmcjdmdjpaaRi
import Derived.Test.YtlbgnmcjdmdjpaaPg
import Derived.BigRegion
import Derived.Laws.Small
namespace Go.Proofs.Ytlbgnmcjdmdjpaa
open Go.RowKit Go.Shelf
attribute [local go_sem] Oper.semAt_some

theorem parts_any (w : World) (a n : Int) :
    Calls Try.prog 107 #[.int .i64 a, .int .i64 n] w fun e w' => e = .returned (.func (.func 120) #[] #[.pointer (some ⟨w.heap.size + 1, 0, none⟩), .pointer (some ⟨w.heap.size, 0, none⟩)]) ∧ w' = (w.alloc (.cells #[.int .i64 a] 3)).alloc (.cells #[.int .i64 n] 3) := by
  go_enter Try.func107, Try.ntmps107
  go_wp2
  go_ret
  exact ⟨rfl, rfl⟩
/-- The two boxes of what is left of a span. -/
def Bx (W : World) (ba bn a n : Nat) : Prop := W.cell? ⟨ba, 0, none⟩ = some (.int .i64 (a : Int)) ∧ W.cell? ⟨bn, 0, none⟩ = some (.int .i64 (n : Int)) ∧ W.frozen? ⟨ba, 0, none⟩ = false ∧ W.frozen? ⟨bn, 0, none⟩ = false
theorem Bx.same {W W' : World} {ba bn a n : Nat} {S : Nat → Prop} (h : Bx W ba bn a n) (hs : Same S W W') (h1 : ¬ S ba) (h2 : ¬ S bn) : Bx W' ba bn a n :=
  ⟨hs.cell h.1 h1, hs.cell h.2.1 h2, hs.unfrozen h.1 h.2.2.1 h1, hs.unfrozen h.2.1 h.2.2.2 h2⟩
theorem Bx.lt {W : World} {ba bn a n : Nat} (h : Bx W ba bn a n) : ba < W.heap.size ∧ bn < W.heap.size := ⟨World.block_lt_of_cell? _ _ h.1, World.block_lt_of_cell? _ _ h.2.1⟩
def pk (a n : Nat) : Nat := min n (64 - a % 64)
theorem pk_pos {a n : Nat} (h : 0 < n) : 0 < pk a n ∧ pk a n ≤ n ∧ a % 64 + pk a n ≤ 64 := by unfold pk; omega

set_option maxHeartbeats 3200000 in
set_option maxRecDepth 8192 in
theorem parts1 (l ba bn : Nat) (hne : ba ≠ bn) (I : Nat → Nat → World → Prop) (Jx : World → Prop)
    (hI : ∀ a n W W', I a n W → Same (fun b => b = ba ∨ b = bn) W W' → I a n W')
    (hy : ∀ a n W, 0 < n → a + n ≤ 20480 → Bx W ba bn a n → I a n W → YieldAt Fence.wide 0 Try.prog l #[.agg #[.int .i64 ((a : Int) / 64), .int .i64 ((a : Int) % 64), .int .i64 (pk a n)]] (W.alloc (.cells #[.int .i64 ((a : Int) / 64), .int .i64 ((a : Int) % 64), .int .i64 (pk a n)] 140)) fun e W' =>
      (e = .returned (.bool true) ∧ Bx W' ba bn a n ∧ I (a + pk a n) (n - pk a n) W' ∧ W'.cell? ⟨W.heap.size, 2, none⟩ = some (.int .i64 (pk a n))) ∨ (e = .returned (.bool false) ∧ Jx W'))
    (w : World) (a0 n0 : Nat) (h0 : I a0 n0 w) (hb : Bx w ba bn a0 n0) (hle : a0 + n0 ≤ 20480) :
    Calls Try.prog 120 #[.func (.yield l) #[] #[], .pointer (some ⟨bn, 0, none⟩), .pointer (some ⟨ba, 0, none⟩)] w fun e W => (∃ v, e = .returned v) ∧ ((∃ a, I a 0 W) ∨ Jx W) := by
  refine (callsIn_wide (n := 0)).1 ?_
  refine callsIn_of_wp Try.func120 rfl trivial ?_ rfl
  simp only [Try.ntmps120, List.size_toArray, List.length_cons, List.length_nil, Nat.reduceAdd, Nat.reduceSub, Array.replicate_succ, Array.replicate_zero, List.push_toArray, List.append_toArray, List.nil_append, List.cons_append]
  gi_wp2
  gi_loopw [4] (fun _ wr => ∃ a n : Nat, a + n ≤ 20480 ∧ Bx wr ba bn a n ∧ I a n wr) (fun _ wr => match wr.cell? ⟨bn, 0, none⟩ with | some (.int _ k) => k.toNat | _ => 0)
  case atStart => exact ⟨a0, n0, hle, hb, h0⟩
  case round =>
    obtain ⟨a, n, hle, hB, hJ⟩ := hrel
    have HB := Lib.hid hB
    have HJ := Lib.hid hJ
    obtain ⟨hl1, hl2⟩ := hB.lt
    obtain ⟨b1, b2, b3, b4⟩ := hB
    clear hJ
    by_cases hn : 0 < n
    · have hni : 0 < (n : Int) := by omega
      obtain ⟨k1, k2, k3⟩ := pk_pos (a := a) hn
      have hd : ((a : Int).tdiv 64) = ((a / 64 : Nat) : Int) := by rw [Int.tdiv_eq_ediv_of_nonneg (by omega)]; omega
      have hm : ((a : Int).tmod 64) = ((a % 64 : Nat) : Int) := by rw [Int.tmod_eq_emod_of_nonneg (by omega)]; omega
      have hmin : min (n : Int) (64 - (a : Int) % 64) = ((pk a n : Nat) : Int) := by unfold pk; omega
      have hyk := hy a n wr hn hle HB.out HJ.out
      obtain ⟨fn, tmps, assign, body, hye, hR⟩ := hyk
      have hpkn : ((pk a n : Nat) : Int) ≤ n := by omega
      have hpk0 : 0 ≤ ((pk a n : Nat) : Int) := by omega
      gi_wp2
      refine hR.mono ?_
      rintro e W3 (⟨rfl, hB3, hJ3, hp3⟩ | ⟨rfl, hJx3⟩)
      · obtain ⟨hm1, hm2⟩ := hB3.lt
        obtain ⟨d1, d2, d3, d4⟩ := hB3
        have HJ3 := Lib.hid hJ3
        have hmp := World.block_lt_of_cell? _ _ hp3
        clear hJ3 hR hye
        gi_wp2_with fail
        gi_region
        obtain ⟨W4, hW4⟩ : ∃ W4, W4 = ((W3.setCell ⟨ba, 0, none⟩ (.int .i64 ((a : Int) + (pk a n : Nat)))).setCell ⟨bn, 0, none⟩ (.int .i64 ((n : Int) - (pk a n : Nat)))).drew := ⟨_, rfl⟩
        have hs4 : Same (fun b => b = ba ∨ b = bn) W3 W4 := by rw [hW4]; exact (((Same.refl _ _).setCell _ (.inr (.inl rfl))).setCell _ (.inr (.inr rfl))).drew
        have e1 : W4.cell? ⟨ba, 0, none⟩ = some (.int .i64 ((a + pk a n : Nat) : Int)) := by
          rw [hW4]
          show ((W3.setCell _ _).setCell _ _).cell? _ = _
          rw [World.cell?_setCell_other _ _ _ _ (by simp <;> omega), World.cell?_setCell_same _ _ _ d1]
          rw [show ((a : Int) + ((pk a n : Nat) : Int)) = ((a + pk a n : Nat) : Int) by omega]
        have e2 : W4.cell? ⟨bn, 0, none⟩ = some (.int .i64 ((n - pk a n : Nat) : Int)) := by
          rw [hW4]
          show ((W3.setCell _ _).setCell _ _).cell? _ = _
          rw [World.cell?_setCell_same _ _ _ (by rw [World.cell?_setCell_other _ _ _ _ (by simp <;> omega)]; exact d2)]
          rw [show ((n : Int) - ((pk a n : Nat) : Int)) = ((n - pk a n : Nat) : Int) by omega]
        have e3 : W4.frozen? ⟨ba, 0, none⟩ = false := by rw [hW4]; simpa using d3
        have e4 : W4.frozen? ⟨bn, 0, none⟩ = false := by rw [hW4]; simpa using d4
        rw [← hW4]
        have HF := Lib.hid (And.intro (show Bx W4 ba bn (a + pk a n) (n - pk a n) from ⟨e1, e2, e3, e4⟩) (hI _ _ _ _ HJ3.out hs4))
        have E2 := Lib.hid e2
        have B2 := Lib.hid b2
        clear hW4 e1 e2 e3 e4 d1 d2 d3 d4 hs4 hp3 b1 b2 b3 b4 hmin
        gi_wp2
        go_roundw
        case rel => exact ⟨a + pk a n, n - pk a n, by omega, HF.out.1, HF.out.2⟩
        case measure => rw [E2.out, B2.out]; simp; omega
      · gi_wp2
        exact bodyPost_ret (results_none rfl _ _ _) rfl ⟨⟨_, rfl⟩, .inr hJx3⟩
    · obtain rfl : n = 0 := by omega
      gi_wp2
      exact bodyPost_end (results_none rfl _ _ _) rfl ⟨⟨_, rfl⟩, .inl ⟨a, HJ.out⟩⟩
end Go.Proofs.Ytlbgnmcjdmdjpaa
